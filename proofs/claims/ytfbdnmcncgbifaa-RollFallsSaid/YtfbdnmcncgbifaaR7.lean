/- Rolls: what is behind the records is zeroed. No condition. -/
import Derived.Test.YtfbdnmcncgbifaaR6
noncomputable section
namespace Go.Ev
open Go.Proofs
set_option linter.unusedVariables false
set_option maxRecDepth 100000

theorem isnt_spec (s : St) (c : UInt8) : Cw Try.prog 46 [.int .u8 (c.toNat : Int)] s fun r s' => s' = s ∧ r = .bool (!(c == 0)) := by
  refine Cw.enter Try.func46 rfl rfl ?_
  conv => whnf
  refine ⟨⟨rfl, congrArg Value.bool ?_⟩⟩
  by_cases h : c = 0
  · subst h; rfl
  · have h2 : c.toNat ≠ 0 := fun e => h (UInt8.toNat_inj.1 e)
    have : ((c.toNat : Int) == 0) = false := beq_eq_false_iff_ne.2 (by omega)
    show (match ((c.toNat : Int) == 0) with | true => false | false => true) = _
    rw [this, beq_eq_false_iff_ne.2 h]; rfl
theorem indexFunc_spec (s : St) {κ : Option Nat} {v : Value} {l : List UInt8} (hv : Sb s κ v l) (hl : l.length ≤ 1000000) :
    Cw Try.prog 56 [v, .func (.func 46) #[] #[]] s fun r s' => s' = s ∧ ∃ i : Int, r = .int .i64 i ∧ (0 ≤ i ↔ l.any (fun c => !(c == 0)) = true) := by
  obtain ⟨a, c, rfl⟩ := hv.shape
  refine Cw.enterS Try.func56 rfl rfl ?_
  refine Sm.seqW ?_
  conv => whnf
  refine Sm.seq ?_
  refine Sm.seqW ?_
  conv => whnf
  refine Sm.block ?_
  refine Sm.loop ?_
  refine Lp.ofS (α := Nat) (fun i => [(0, .slice a l.length c), (1, .func (.func 46) #[] #[]), (7, .int .i64 (l.length : Int)), (8, .int .i64 (i : Int))])
    (fun i s' => s' = s ∧ i ≤ l.length ∧ (l.take i).any (fun c => !(c == 0)) = false) (fun i => l.length - i) ?_ 0 (subK_ok (by refine ⟨rfl, rfl, rfl, rfl, trivial⟩)) ⟨rfl, by omega, rfl⟩
  rintro i s1 ⟨rfl, hi, hno⟩
  refine Sm.seqW ?_
  conv => whnf
  refine Sm.seqW ?_
  conv => whnf
  refine Br.mk (fun hc => ?_) (fun hc => ?_)
  · have hc : i < l.length := by have := of_decide_eq_true hc; omega
    conv => whnf
    refine Sm.seq (Sm.block ?_)
    refine Sm.seqW ?_
    conv => whnf
    refine Sm.seqW ?_
    conv => whnf
    obtain ⟨p, e1, e2⟩ := idx8 hv hc
    refine Om.of _ e1 ?_
    conv => whnf
    refine Om.of _ e2 ?_
    conv => whnf
    refine (isnt_spec s1 l[i]).mono ?_
    rintro _ _ ⟨rfl, rfl⟩
    conv => whnf
    refine Sm.ofW ?_
    conv => whnf
    cases hz : (!(l[i] == 0)) with
    | true =>
      refine Br.yes rfl ?_
      conv => whnf
      refine ⟨rfl, (i : Int), rfl, fun _ => ?_, fun _ => by omega⟩
      rw [List.any_eq_true]
      exact ⟨l[i], List.getElem_mem hc, hz⟩
    | false =>
      refine Br.no rfl ?_
      conv => whnf
      refine Sm.ofW ?_
      conv => whnf
      have e6 : IntKind.i64.wrap ((i : Int) + 1) = ((i + 1 : Nat) : Int) := by rw [wi64 (by omega) (by omega)]; omega
      refine ⟨i + 1, by (show l.length - (i + 1) < l.length - i); omega, subK_ok (by refine ⟨rfl, rfl, rfl, congrArg (fun x => some (Value.int .i64 x)) e6, trivial⟩), rfl, hc, ?_⟩
      rw [List.take_succ_eq_append_getElem hc, List.any_append, hno]
      simp only [List.any_cons, List.any_nil, hz]; rfl
  · have hc : i = l.length := by have := of_decide_eq_false hc; omega
    subst hc
    rw [List.take_of_length_le (Nat.le_refl _)] at hno
    conv => whnf
    refine Sm.ofW ?_
    conv => whnf
    exact ⟨rfl, -1, rfl, fun h => by omega, fun h => by rw [hno] at h; cases h⟩
theorem contains_spec (s : St) {κ : Option Nat} {v : Value} {l : List UInt8} (hv : Sb s κ v l) (hl : l.length ≤ 1000000) :
    Cw Try.prog 45 [v, .func (.func 46) #[] #[]] s fun r s' => s' = s ∧ r = .bool (l.any (fun c => !(c == 0))) := by
  refine Cw.enter Try.func45 rfl rfl ?_
  conv => whnf
  refine (indexFunc_spec s hv hl).mono ?_
  rintro _ _ ⟨rfl, i, rfl, h⟩
  conv => whnf
  refine ⟨⟨rfl, congrArg Value.bool ?_⟩⟩
  show decide (i ≥ 0) = _
  cases ha : l.any (fun c => !(c == 0)) with
  | true => exact decide_eq_true (h.2 ha)
  | false => exact decide_eq_false (fun hh => by have := h.1 hh; rw [ha] at this; cases this)
/-- Zeros are written, thirty-two at once. -/
def zeroL : Nat → SL → Int → Nat → Nat → SL × Bool
  | 0, σ, _, _, _ => (σ, true)
  | f + 1, σ, base, at_, len => if at_ < len then
      (if (σ.write (base + at_) (List.replicate (min 32 (len - at_)) 0)).2 = true then zeroL f (σ.write (base + at_) (List.replicate (min 32 (len - at_)) 0)).1 base (at_ + 32) len else ((σ.write (base + at_) (List.replicate (min 32 (len - at_)) 0)).1, false))
    else (σ, true)
def zeroF (σ : SL) (base : Int) (l : List UInt8) : SL × Bool := if l.any (fun c => !(c == 0)) = true then zeroL (l.length + 1) σ base 0 l.length else (σ, true)
theorem SL.write_len (σ : SL) (a : Int) (l : List UInt8) : (σ.write a l).1.b.length = σ.b.length := by
  unfold SL.write
  split
  · rename_i h
    obtain ⟨h1, h2, h3, h4, h5⟩ := SL.has_iff.1 h
    split
    · simp only; rw [putB_length _ _ _ (by simp; omega)]
    · simp only; rw [putB_length _ _ _ (by omega)]
  · rfl
section
variable {X : Nat → Prop} {s0 s : St} {R F G H : List At} {p v : Value} {kr br : Nat} {κ : Option Nat} {ro : RO} {ks kb : Nat} {σ : SL}
theorem Hp.blkOn {k b e n : Nat} {C : List Value} (h : Hp X s0 R F s) (r : Rm (blkA k b C e) F G) (hl : C.length = n * e) : Hp X s0 R (onA (some k) (.slice (some ⟨b, 0, none⟩) n n) e n C :: G) s :=
  h.as r (fun hb => ⟨.inr ⟨k, rfl, b, rfl, hb, hl⟩⟩) fun j hj => by (injection hj with hj); exact hj.symm
theorem zeroed_spec (hp : Hp X s0 R F s) (h1 : Rm (blkA kr br (roCells p ro v) 5) F G) (h3 : Rm (slabA p ks kb σ) G H) (ha : ro.at_ ≤ 65536) (hu : ro.used ≤ 8192) {κb : Option Nat} {w : Value} {l : List UInt8} (hw : HasR (slA κb w 1 l.length (byteVals l)) R) (hl : l.length ≤ 8192)
    {K : Value → St → Prop} (hK : ∀ s', Hp X s0 R (slabA p ks kb (zeroF σ ((ro.at_ : Int) + ro.used) l).1 :: blkA kr br (roCells p ro v) 5 :: H) s' → K (.int .i64 (if (zeroF σ ((ro.at_ : Int) + ro.used) l).2 = true then 0 else 6)) s') :
    Cw Try.prog 31 [.pointer (some ⟨br, 0, none⟩), w] s K := by
  replace hp : Hp X s0 R (slabA p ks kb σ :: blkA kr br (roCells p ro v) 5 :: H) s := (hp.pik (.cons h1 (.cons h3 (.refl H)))).pik (by repeat (first | exact Pik.nil | exact Pik.refl _ | exact Rm.here | apply Rm.there | apply Pik.cons | apply Pik.skip))
  clear h1 h3
  obtain ⟨aw, cw, rfl⟩ := (hp.slR hw).shape
  obtain ⟨bp, bb, rfl, -, -⟩ := (hp.slab (p := p) (ks := ks) (kb := kb) (σ := σ) (by repeat (first | exact Has.here | apply Has.there | (apply Has.swap; repeat (first | exact HasR.here | apply HasR.there))))).ex
  refine Cw.enterS Try.func31 rfl rfl ?_
  refine Sm.seqW ?_
  conv => whnf
  refine Sm.seq ?_
  refine Sm.seqW ?_
  conv => whnf
  refine (contains_spec s (hp.slR hw) (by omega)).mono ?_
  rintro _ _ ⟨rfl, rfl⟩
  conv => whnf
  refine Sm.ofW ?_
  conv => whnf
  cases hany : l.any (fun c => !(c == 0)) with
  | false =>
    have hz : zeroF σ ((ro.at_ : Int) + ro.used) l = (σ, true) := by unfold zeroF; rw [hany]; rfl
    rw [hz] at hK
    refine Br.yes rfl ?_
    conv => whnf
    exact ⟨hK _ hp⟩
  | true =>
    have hz : zeroF σ ((ro.at_ : Int) + ro.used) l = zeroL (l.length + 1) σ ((ro.at_ : Int) + ro.used) 0 l.length := by unfold zeroF; rw [hany]; rfl
    rw [hz] at hK
    clear hz hany
    refine Br.no rfl ?_
    conv => whnf
    refine Sm.live [0, 1] ?_
    conv => whnf
    refine Sm.seq ?_
    refine Sm.seqW ?_
    conv => whnf
    refine Sm.block ?_
    refine Sm.loop ?_
    refine Lp.ofS (α := Nat × SL × Nat) (fun x => [(0, .pointer (some ⟨br, 0, none⟩)), (1, .slice aw l.length cw), (5, .int .i64 (x.1 : Int))])
      (fun x s' => x.1 ≤ l.length + 32 ∧ l.length < x.2.2 * 32 + x.1 ∧ Hp X s0 R (slabA (.pointer (some ⟨bp, 0, none⟩)) ks kb x.2.1 :: blkA kr br (roCells (.pointer (some ⟨bp, 0, none⟩)) ro v) 5 :: H) s' ∧ zeroL (l.length + 1) σ ((ro.at_ : Int) + ro.used) 0 l.length = zeroL x.2.2 x.2.1 ((ro.at_ : Int) + ro.used) x.1 l.length)
      (fun x => l.length + 32 - x.1) ?_ (0, σ, l.length + 1) (subK_ok (by refine ⟨rfl, rfl, rfl, trivial⟩)) ⟨by omega, by simp only; omega, hp, rfl⟩
    clear hp
    rintro ⟨i, τ, f⟩ s ⟨hi, hf, hp, he⟩
    simp only at hi hf hp he
    rw [he] at hK
    refine Sm.seq ?_
    refine Sm.ofW ?_
    conv => whnf
    refine Br.mk (fun hc => ?_) (fun hc => ?_)
    · have hci : i < l.length := by have := of_decide_eq_true hc; omega
      clear hc
      obtain ⟨f, rfl⟩ : ∃ g, f = g + 1 := ⟨f - 1, by omega⟩
      have hun : zeroL (f + 1) τ ((ro.at_ : Int) + ro.used) i l.length = (if (τ.write ((ro.at_ : Int) + ro.used + i) (List.replicate (min 32 (l.length - i)) 0)).2 = true then zeroL f (τ.write ((ro.at_ : Int) + ro.used + i) (List.replicate (min 32 (l.length - i)) 0)).1 ((ro.at_ : Int) + ro.used) (i + 32) l.length else ((τ.write ((ro.at_ : Int) + ro.used + i) (List.replicate (min 32 (l.length - i)) 0)).1, false)) := by
        conv => lhs; unfold zeroL
        rw [if_pos hci]
      conv => whnf
      refine Sm.seq (Sm.block ?_)
      refine Sm.seqW ?_
      conv => whnf
      refine ⟨[0, 1, 3, 7, 0, 16, 48, 112, 0, 256, 768, 1792, 4080, 0, 16368, 0, 32768, 0, 229376, 491520, 1015808, 2097151, 4194303], by decide +kernel, by decide +kernel, ?_⟩
      conv => whnf
      (refine hp.load (by repeat (first | exact Has.here | apply Has.there | (apply Has.swap; repeat (first | exact HasR.here | apply HasR.there)))) (by rfl) rfl rfl rfl ?_; conv => whnf)
      (refine hp.load (by repeat (first | exact Has.here | apply Has.there | (apply Has.swap; repeat (first | exact HasR.here | apply HasR.there)))) (by rfl) rfl rfl rfl ?_; conv => whnf)
      (refine hp.load (by repeat (first | exact Has.here | apply Has.there | (apply Has.swap; repeat (first | exact HasR.here | apply HasR.there)))) (by rfl) rfl rfl rfl ?_; conv => whnf)
      have e1 : IntKind.i64.wrap (IntKind.i64.wrap ((ro.at_ : Int) + (ro.used : Int)) + (i : Int)) = (ro.at_ : Int) + ro.used + i := by
        rw [wi64 (n := (ro.at_ : Int) + (ro.used : Int)) (by omega) (by omega), wi64 (by omega) (by omega)]
      have e2 : (if IntKind.i64.wrap ((l.length : Int) - (i : Int)) < 32 then IntKind.i64.wrap ((l.length : Int) - (i : Int)) else 32) = ((min 32 (l.length - i) : Nat) : Int) := by
        rw [wi64 (by omega) (by omega)]; split <;> omega
      generalize hm : min 32 (l.length - i) = m at e2 hun
      refine hp.rst.mks B26 rfl m e2 e2 (by omega) ?_
      intro b7 s7 h7 k7
      conv => whnf
      refine hp.dkN h7 k7 ?_
      clear hp h7 k7
      intro s hp
      rw [← byteVals_replicate] at hp
      conv => whnf
      have hp2 := hp.blkOn (n := m) (by repeat (first | exact Rm.here | apply Rm.there)) (by rw [byteVals_length]; simp)
      clear hp
      rw [e1]
      have hlr : (List.replicate m (0 : UInt8)).length = m := by simp
      refine hp2.rst.sWrite (κ := some b7) (l := List.replicate m 0) (by repeat (first | exact Rm.here | apply Rm.there)) _ (by rw [hlr]; repeat (first | exact Has.here | apply Has.there | (apply Has.swap; repeat (first | exact HasR.here | apply HasR.there)))) ?_
      intro s8 h8
      conv => whnf
      have e3 : IntKind.i64.wrap ((i : Int) + 32) = ((i + 32 : Nat) : Int) := by rw [wi64 (by omega) (by omega)]; omega
      cases hwr : (τ.write ((ro.at_ : Int) + ro.used + i) (List.replicate m 0)).2 with
      | false =>
        rw [hwr] at hun
        rw [hun] at hK
        refine hp2.dkA h8 ?_ ?_
        all_goals
          clear hp2 h8
          intro s hp
          conv => whnf
          refine Sm.ofW ?_
          conv => whnf
          refine Br.yes rfl ?_
          conv => whnf
          exact ⟨hK _ (hp.pik (by repeat (first | exact Pik.nil | exact Pik.refl _ | exact Rm.here | apply Rm.there | apply Pik.cons | apply Pik.skip)))⟩
      | true =>
        rw [hwr, if_pos rfl] at hun
        refine hp2.dkA h8 ?_ ?_
        all_goals
          clear hp2 h8
          intro s hp
          conv => whnf
          refine Sm.ofW ?_
          conv => whnf
          refine Br.no rfl ?_
          conv => whnf
          refine Sm.ofW ?_
          conv => whnf
          exact ⟨(i + 32, _, f), by (show l.length + 32 - (i + 32) < l.length + 32 - i); omega, subK_ok (by refine ⟨rfl, rfl, congrArg (fun x => some (Value.int .i64 x)) e3, trivial⟩), by (show i + 32 ≤ l.length + 32); omega, by (show l.length < f * 32 + (i + 32)); omega, hp.pik (by repeat (first | exact Pik.nil | exact Pik.refl _ | exact Rm.here | apply Rm.there | apply Pik.cons | apply Pik.skip)), he.trans hun⟩
    · have hci : ¬ i < l.length := by have := of_decide_eq_false hc; omega
      have hun : zeroL f τ ((ro.at_ : Int) + ro.used) i l.length = (τ, true) := by
        cases f with
        | zero => rfl
        | succ f => unfold zeroL; rw [if_neg hci]
      rw [hun] at hK
      conv => whnf
      refine Sm.ofW ?_
      conv => whnf
      exact ⟨hK _ hp⟩
end
end Go.Ev
