/- Several texts in one: what the law's text leans on, one behind the other. No condition but those that each theorem names. -/
import Derived.Test.YtknhjdkjjfijlaaGreatDoorGEntryTells3
noncomputable section
namespace Go.Ev
open Go.Proofs
set_option linter.unusedVariables false
set_option linter.unusedSectionVars false
set_option maxRecDepth 100000
/- The document's Digits, Small, Needless and Cut walked. No condition. -/
section
variable [Lk]
def dcF : Nat → Nat → List UInt8
 | 0, n => [dgt (n % 10)]
 | f + 1, n => if n < 10 then [dgt n] else dcF f (n / 10) ++ [dgt (n % 10)]
theorem dgt_cv : ∀ n : Nat, n < 10 → IntKind.u8.wrap (IntKind.i64.wrap (48 + (n : Int))) = (((dgt n).toNat : Nat) : Int) := by decide +kernel
theorem dec_itoa : ∀ n, n < 100 → ∀ f, 0 < f → dcF f n = itoaF n := by
 intro n hn f hf
 obtain ⟨g, rfl⟩ : ∃ g, f = g + 1 := ⟨f - 1, by omega⟩
 unfold dcF itoaF
 by_cases h : n < 10
 · rw [if_pos h, if_pos h]
 · rw [if_neg h, if_neg h]
   have h2 : dcF g (n / 10) = [dgt (n / 10)] := by
    cases g with
    | zero => unfold dcF; rw [Nat.mod_eq_of_lt (by omega)]
    | succ g => unfold dcF; rw [if_pos (by omega)]
   rw [h2]; rfl
theorem dcF_len : ∀ f n, (dcF f n).length ≤ f + 1
 | 0, n => by simp [dcF]
 | f + 1, n => by
   unfold dcF
   split
   · simp
   · have := dcF_len f (n / 10); simp; omega
theorem rdig_step (f n : Nat) (hn : n < 10 ^ (f + 1)) (hf : f ≤ 17) (ih : ∀ g, f = g + 1 → ∀ m : Nat, m < 10 ^ (g + 1) → ∀ z : St, WF z → Cw Tryz.prog 42 [.int .i64 (m : Int)] z fun r s' => K0 z s' ∧ r = sv (dcF g m)) {z : St} (wf : WF z) :
  Cw Tryz.prog 42 [.int .i64 (n : Int)] z fun r s' => K0 z s' ∧ r = sv (dcF f n) := by
  have hp10 : (10 : Nat) ^ (f + 1) ≤ 10 ^ 18 := Nat.pow_le_pow_right (by decide) (by omega)
  have hn18 : n < 10 ^ 18 := Nat.lt_of_lt_of_le hn hp10
  have hp : Hp (fun _ => False) z [] [] z := Hp.start _ wf _ (by simp)
  refine Cw.enterS Tryz.func42 rfl rfl ?_
  refine Sm.seqW ?_
  conv => whnf
  refine Sm.live [0] ?_
  conv => whnf
  refine Sm.seq ?_
  refine Sm.seqW ?_
  conv => whnf
  refine Sm.ofW ?_
  conv => whnf
  refine Br.no (decide_eq_false (by omega)) ?_
  conv => whnf
  refine Sm.seq ?_
  refine Sm.seqW ?_
  conv => whnf
  refine Sm.ofW ?_
  conv => whnf
  by_cases h : n < 10
  · refine Br.yes (decide_eq_true (by omega)) ?_
    conv => whnf
    rw [dgt_cv n h]
    refine hp.lit (cs := byteVals [dgt n]) (e := 1) (by rfl) ?_
    clear hp
    intro b s hp _
    conv => whnf
    refine Om.of _ (string_sl Tryz.underlying59 Tryz.underlying9 Tryz.underlying5 (l := [dgt n]) (hp.blkSl (k := b) (b := b) (n := 1) .d rfl)) ?_
    conv => whnf
    refine ⟨hp.fr, ?_⟩
    cases f with
    | zero => unfold dcF; rw [Nat.mod_eq_of_lt h]; rfl
    | succ f => unfold dcF; rw [if_pos h]; rfl
  · obtain ⟨g, rfl⟩ : ∃ g, f = g + 1 := by
     cases f with
     | zero => exact absurd hn (by simpa using h)
     | succ f => exact ⟨f, rfl⟩
    have hlen := dcF_len g (n / 10)
    have hm10 : n % 10 < 10 := Nat.mod_lt _ (by decide)
    have hm : n / 10 < 10 ^ (g + 1) := by
     have e : (10 : Nat) ^ (g + 1 + 1) = 10 ^ (g + 1) * 10 := Nat.pow_succ ..
     rw [e] at hn
     exact Nat.div_lt_of_lt_mul (by rw [Nat.mul_comm]; exact hn)
    refine Br.no (decide_eq_false (by omega)) ?_
    conv => whnf
    refine Sm.seqW ?_
    conv => whnf
    refine ⟨[0, 1, 3, 0, 8, 24, 56, 120, 248, 511, 1023], by decide +kernel, by decide +kernel, ?_⟩
    conv => whnf
    refine Om.of _ (quo_nat (m := 10) (by decide) (show n < 9223372036854775808 by omega)) ?_
    conv => whnf
    refine hp.rst.call (ih g rfl (n / 10) hm _ hp.rst.wf) ?_
    rintro _ s1 rfl h1 k1
    conv => whnf
    refine hp.dkN h1 k1 ?_
    clear hp h1 k1
    intro s hp
    conv => whnf
    refine Om.of _ (rem_nat (n := n) (m := 10) (by decide)) ?_
    conv => whnf
    rw [dgt_cv (n % 10) hm10]
    refine hp.rst.lit (cs := byteVals [dgt (n % 10)]) (e := 1) (by rfl) ?_
    intro b s1 h1 k1
    conv => whnf
    refine hp.dkN h1 k1 ?_
    clear hp h1 k1
    intro s hp
    conv => whnf
    refine Om.of _ (string_sl Tryz.underlying59 Tryz.underlying9 Tryz.underlying5 (l := [dgt (n % 10)]) (hp.rst.blkSl (k := b) (b := b) (n := 1) .d rfl)) ?_
    conv => whnf
    refine hp.dkS ?_
    conv => whnf
    refine Om.of _ (sv_add (dcF g (n / 10)) [dgt (n % 10)] (by simp; omega)) ?_
    conv => whnf
    refine Sm.live [2] ?_
    conv => whnf
    refine Sm.ofW ?_
    conv => whnf
    refine ⟨hp.fr, ?_⟩
    show _ = sv (if n < 10 then [dgt n] else dcF g (n / 10) ++ [dgt (n % 10)])
    rw [if_neg h]; rfl
theorem rdig_all : ∀ (f n : Nat), n < 10 ^ (f + 1) → f ≤ 17 → ∀ z : St, WF z → Cw Tryz.prog 42 [.int .i64 (n : Int)] z fun r s' => K0 z s' ∧ r = sv (dcF f n)
 | 0, n, hn, hf, z, wf => rdig_step 0 n hn hf (fun g h => by cases h) wf
 | f + 1, n, hn, hf, z, wf => rdig_step (f + 1) n hn hf (fun g h m hm z wf => by
     obtain rfl : f = g := by omega
     exact rdig_all f m hm (by omega) z wf) wf
theorem rdig2_spec {z : St} (wf : WF z) {n : Nat} (hn : n < 100) : Cw Tryz.prog 42 [.int .i64 (n : Int)] z fun r s' => K0 z s' ∧ r = sv (itoaF n) := by
 rw [← dec_itoa n hn 1 (by decide)]
 exact rdig_all 1 n (by omega) (by decide) z wf
/-! ### a number of one or two digits -/
theorem small_neg {l : List UInt8} (h : smallF l < 0) : smallF l = -1 := by
 unfold smallF at h ⊢
 cases hf : (List.range 100).find? fun k => l == itoaF k with
 | none => rfl
 | some k => rw [hf] at h; exact absurd h (by simp only; omega)
theorem itoa_val : ∀ k, k < 100 → valD (itoaF k) = k := by decide +kernel
theorem small_if {l : List UInt8} : smallF l = if itoaF (valD l) = l ∧ valD l < 100 then ((valD l : Nat) : Int) else -1 := by
 by_cases h : itoaF (valD l) = l ∧ valD l < 100
 · rw [if_pos h]
   have := smallF_itoa (valD l) h.2
   rw [h.1] at this
   exact this
 · rw [if_neg h]
   apply small_neg
   apply Decidable.byContradiction
   intro g
   obtain ⟨k, hk, e, _⟩ := smallF_ok g
   apply h
   rw [e, itoa_val k hk]
   exact ⟨rfl, hk⟩
theorem small_bad {l : List UInt8} {i : Nat} (hi : i < l.length) (h : isD l[i] = false ∨ 2 ≤ i) : smallF l = -1 := by
 apply small_neg
 apply Decidable.byContradiction
 intro g
 obtain ⟨k, hk, e, _⟩ := smallF_ok g
 rcases h with h | h
 · have := itoaF_isD k hk l[i] (by rw [← e]; exact List.getElem_mem hi)
   rw [this] at h; cases h
 · have := itoa_le k
   rw [← e] at this; omega
theorem u8_sub (c : UInt8) (h : isD c = true) : IntKind.i64.wrap (IntKind.u8.wrap (((c.toNat : Nat) : Int) - 48)) = ((c.toNat - 48 : Nat) : Int) := by
 have h2 := isD_d h
 have hc := c.toNat_lt
 rw [wrap_u8i]
 have : (((c.toNat : Nat) : Int) - 48) % 256 = ((c.toNat - 48 : Nat) : Int) := by omega
 rw [this, wi64 (by omega) (by omega)]
theorem valD_lt : ∀ l : List UInt8, (∀ x ∈ l, isD x = true) → l.length ≤ 2 → valD l < 100
 | [], _, _ => by decide
 | [a], h, _ => by
   have := isD_d (h a (by simp)); simp [valD]; omega
 | [a, b], h, _ => by
   have := isD_d (h a (by simp)); have := isD_d (h b (by simp)); simp [valD]; omega
 | a :: b :: c :: r, _, h => by simp at h
theorem rsmall_spec {z : St} (wf : WF z) (l : List UInt8) (hl : l.length ≤ 281474976710656) :
  Cw Tryz.prog 87 [sv l] z fun r s' => K0 z s' ∧ r = .int .i64 (smallF l) := by
 have hp : Hp (fun _ => False) z [] [] z := Hp.start _ wf _ (by simp)
 refine Cw.enterS Tryz.func87 rfl rfl ?_
 refine Sm.seqW ?_
 conv => whnf
 refine Sm.live [0] ?_
 conv => whnf
 refine Sm.seqW ?_
 conv => whnf
 refine Sm.live [0, 3] ?_
 conv => whnf
 refine Sm.seq ?_
 refine Sm.seqW ?_
 conv => whnf
 refine Sm.live [0, 3, 4] ?_
 conv => whnf
 refine Sm.block ?_
 refine Sm.loop ?_
 refine Lp.ofS (α := Nat) (fun i => [(0, sv l), (3, .int .i64 ((valD (l.take i) : Nat) : Int)), (4, .int .i64 (i : Int))])
  (fun i s' => i ≤ l.length ∧ i ≤ 2 ∧ (∀ x ∈ l.take i, isD x = true) ∧ s' = z) (fun i => l.length - i) ?_ 0 (subK_ok (by refine ⟨rfl, rfl, rfl, trivial⟩)) ⟨Nat.zero_le _, by decide, fun x hx => (by cases hx), rfl⟩
 rintro i s ⟨hi, hi2, hd, h1⟩
 obtain rfl := h1.symm
 refine Sm.seq ?_
 refine Sm.seqW ?_
 conv => whnf
 refine Sm.live [0, 3, 4, 8] ?_
 conv => whnf
 refine Sm.ofW ?_
 conv => whnf
 refine Br.mk (fun hc => ?_) (fun hc => ?_)
 · have hc : i < l.length := by have : (i : Int) < ((l.length : Nat) : Int) := of_decide_eq_true hc; omega
   have htk : l.take (i + 1) = l.take i ++ [l[i]] := List.take_succ_eq_append_getElem hc
   have hvl := valD_lt (l.take i) hd (by simp; omega)
   conv => whnf
   refine Sm.seq ?_
   refine Sm.block ?_
   refine Sm.seq ?_
   refine Sm.seqC (fun e' L' s' => e' = .normal ∧ s' = z ∧ Sub [(0, sv l), (3, .int .i64 ((valD (l.take i) : Nat) : Int)), (4, .int .i64 (i : Int)), (24, .bool (!isD l[i] || decide (2 ≤ i)))] L') ?_ ?_
   · conv => whnf
     refine Om.of _ (str_index Tryz.underlying9 (l := l) (i := i) hc .i64) ?_
     conv => whnf
     by_cases c1 : l[i].toNat < 48
     · have q1 : decide (((l[i].toNat : Nat) : Int) < 48) = true := decide_eq_true (by omega)
       have e : isD l[i] = false := decide_eq_false (by omega)
       repeat (first | (refine Br.yes q1 ?_; conv => whnf) | ((first | refine Br.y1 ?_ | refine Br.n1 ?_); conv => whnf))
       exact ⟨rfl, rfl, subK_ok ⟨rfl, rfl, rfl, congrArg (fun x => some (Value.bool x)) (by rw [e]; rfl), trivial⟩⟩
     have q1 : decide (((l[i].toNat : Nat) : Int) < 48) = false := decide_eq_false (by omega)
     repeat (first | (refine Br.no q1 ?_; conv => whnf) | ((first | refine Br.y1 ?_ | refine Br.n1 ?_); conv => whnf))
     refine Om.of _ (str_index Tryz.underlying9 (l := l) (i := i) hc .i64) ?_
     conv => whnf
     repeat (first | (refine Br.no q1 ?_; conv => whnf) | ((first | refine Br.y1 ?_ | refine Br.n1 ?_); conv => whnf))
     by_cases c2 : 57 < l[i].toNat
     · have q2 : decide (((l[i].toNat : Nat) : Int) > 57) = true := decide_eq_true (by omega)
       have e : isD l[i] = false := decide_eq_false (by omega)
       repeat (first | (refine Br.no q1 ?_; conv => whnf) | (refine Br.yes q2 ?_; conv => whnf) | ((first | refine Br.y1 ?_ | refine Br.n1 ?_); conv => whnf))
       exact ⟨rfl, rfl, subK_ok ⟨rfl, rfl, rfl, congrArg (fun x => some (Value.bool x)) (by rw [e]; rfl), trivial⟩⟩
     have q2 : decide (((l[i].toNat : Nat) : Int) > 57) = false := decide_eq_false (by omega)
     have e : isD l[i] = true := decide_eq_true (by omega)
     repeat (first | (refine Br.no q1 ?_; conv => whnf) | (refine Br.no q2 ?_; conv => whnf) | ((first | refine Br.y1 ?_ | refine Br.n1 ?_); conv => whnf))
     exact ⟨rfl, rfl, subK_ok ⟨rfl, rfl, rfl, congrArg (fun x => some (Value.bool x)) (by rw [e]; exact decide_eq_decide.2 (by omega)), trivial⟩⟩
   rintro e' L' s' ⟨rfl, h1, hs⟩
   obtain rfl := h1.symm
   refine Sm.weak _ hs ?_
   clear hs
   refine Sm.ofW ?_
   conv => whnf
   cases hb : !isD l[i] || decide (2 ≤ i) with
   | true =>
     repeat (first | (refine Br.yes hb ?_; conv => whnf) | ((first | refine Br.y1 ?_ | refine Br.n1 ?_); conv => whnf))
     refine ⟨hp.fr, ?_⟩
     rw [small_bad hc (by simpa using hb)]; rfl
   | false =>
     repeat (first | (refine Br.no hb ?_; conv => whnf) | ((first | refine Br.y1 ?_ | refine Br.n1 ?_); conv => whnf))
     simp only [Bool.or_eq_false_iff, Bool.not_eq_false', decide_eq_false_iff_not] at hb
     obtain ⟨hb1, hb2⟩ := hb
     have hsub := u8_sub l[i] hb1
     have hdd := isD_d hb1
     refine Sm.ofW ?_
     conv => whnf
     refine Om.of _ (str_index Tryz.underlying9 (l := l) (i := i) hc .i64) ?_
     conv => whnf
     refine Sm.ofW ?_
     conv => whnf
     exact ⟨i + 1, by (show l.length - (i + 1) < l.length - i); omega, subK_ok (by
      refine ⟨rfl, congrArg (fun x => some (Value.int .i64 x)) ?_, congrArg (fun x => some (Value.int .i64 x)) (show IntKind.i64.wrap ((i : Int) + 1) = ((i + 1 : Nat) : Int) by rw [wi64 (by omega) (by omega)]; omega), trivial⟩
      show IntKind.i64.wrap (IntKind.i64.wrap (10 * ((valD (l.take i) : Nat) : Int)) + IntKind.i64.wrap (IntKind.u8.wrap (((l[i].toNat : Nat) : Int) - 48))) = ((valD (l.take (i + 1)) : Nat) : Int)
      rw [hsub, htk, valD_snoc, wi64 (n := 10 * ((valD (l.take i) : Nat) : Int)) (by omega) (by omega), wi64 (by omega) (by omega)]
      omega), by omega, by omega, fun x hx => by
      rw [htk] at hx
      rcases List.mem_append.1 hx with g | g
      · exact hd x g
      · obtain rfl := List.mem_singleton.1 g; exact hb1, rfl⟩
 · have hc : i = l.length := by have : ¬ (i : Int) < ((l.length : Nat) : Int) := of_decide_eq_false hc; omega
   subst hc
   rw [List.take_length] at hd ⊢
   have hvl := valD_lt l hd hi2
   conv => whnf
   refine Sm.seq ?_
   refine Sm.seqC (fun e' L' s' => e' = .normal ∧ K0 z s' ∧ Sub [(3, .int .i64 ((valD l : Nat) : Int)), (41, .bool (!(itoaF (valD l) == l)))] L') ?_ ?_
   · conv => whnf
     by_cases h0 : l = []
     · have q : (((l.length : Nat) : Int) == 0) = true := by rw [h0]; rfl
       repeat (first | (refine Br.yes q ?_; conv => whnf) | ((first | refine Br.y1 ?_ | refine Br.n1 ?_); conv => whnf))
       exact ⟨rfl, hp.fr, subK_ok ⟨rfl, congrArg (fun x => some (Value.bool x)) (by rw [h0]; rfl), trivial⟩⟩
     · have q : (((l.length : Nat) : Int) == 0) = false := beq_eq_false_iff_ne.2 (by have := List.length_pos_iff.2 h0; omega)
       repeat (first | (refine Br.no q ?_; conv => whnf) | ((first | refine Br.y1 ?_ | refine Br.n1 ?_); conv => whnf))
       refine hp.call (rdig2_spec hp.wf hvl) ?_
       clear hp
       rintro _ s rfl hp _
       conv => whnf
       repeat (first | (refine Br.no q ?_; conv => whnf) | ((first | refine Br.y1 ?_ | refine Br.n1 ?_); conv => whnf))
       refine Om.of _ (sv_ne (itoaF (valD l)) l) ?_
       conv => whnf
       repeat (first | (refine Br.no q ?_; conv => whnf) | ((first | refine Br.y1 ?_ | refine Br.n1 ?_); conv => whnf))
       exact ⟨rfl, hp.fr, subK_ok ⟨rfl, rfl, trivial⟩⟩
   rintro e' L' s' ⟨rfl, h1, hs⟩
   refine Sm.weak _ hs ?_
   clear hs
   refine Sm.ofW ?_
   conv => whnf
   rw [small_if]
   by_cases h : itoaF (valD l) = l
   · rw [if_pos ⟨h, hvl⟩]
     refine Br.no (by rw [beq_iff_eq.2 h]; rfl) ?_
     conv => whnf
     refine Sm.seqW ?_
     conv => whnf
     refine Sm.live [2] ?_
     conv => whnf
     refine Sm.ofW ?_
     conv => whnf
     exact ⟨h1, rfl⟩
   · rw [if_neg (fun g => h g.1)]
     refine Br.yes (by rw [beq_eq_false_iff_ne.2 h]; rfl) ?_
     conv => whnf
     exact ⟨h1, rfl⟩
/-! ### a text, cut -/
def hdA (w : List UInt8) (L : List (List UInt8)) : List (List UInt8) := (w ++ L.headD []) :: L.tail
theorem hdA_nil {L : List (List UInt8)} (h : L ≠ []) : hdA [] L = L := by
 cases L with
 | nil => exact absurd rfl h
 | cons x r => rfl
theorem rcut_spec {z : St} (wf : WF z) (l : List UInt8) (hl : l.length ≤ 10000000000000) (c : UInt8) :
  Cw Tryz.prog 65 [sv l, .int .u8 ((c.toNat : Nat) : Int)] z fun r s' => K0 z s' ∧ OwnN z.next s' r 1 (splitL c l).length ((splitL c l).map sv) := by
 have hp : Hp (fun _ => False) z [] [] z := Hp.start _ wf _ (by simp)
 refine Cw.enterS Tryz.func65 rfl rfl ?_
 refine Sm.seqW ?_
 conv => whnf
 refine Sm.live [0, 1] ?_
 conv => whnf
 refine Sm.seqW ?_
 conv => whnf
 refine Sm.live [0, 1, 5] ?_
 conv => whnf
 refine Sm.seqW ?_
 conv => whnf
 refine Sm.live [0, 1, 5, 6] ?_
 conv => whnf
 refine Sm.seq ?_
 refine Sm.seqW ?_
 conv => whnf
 refine Sm.live [0, 1, 5, 6, 7] ?_
 conv => whnf
 refine Sm.block ?_
 refine Sm.loop ?_
 refine Lp.ofS (α := Nat × List (List UInt8) × List UInt8 × Option Nat × Value) (fun x => [(0, sv l), (1, .int .u8 ((c.toNat : Nat) : Int)), (5, x.2.2.2.2), (6, sv x.2.2.1), (7, .int .i64 (x.1 : Int))])
  (fun x s' => x.1 ≤ l.length ∧ x.2.1.length ≤ x.1 ∧ x.2.2.1.length ≤ x.1 ∧ splitL c l = x.2.1 ++ hdA x.2.2.1 (splitL c (l.drop x.1)) ∧ Hp (fun _ => False) z [] [onA x.2.2.2.1 x.2.2.2.2 1 x.2.1.length (x.2.1.map sv)] s') (fun x => l.length - x.1) ?_ (0, [], [], none, .slice none 0 0) (subK_ok (by refine ⟨rfl, rfl, rfl, rfl, rfl, trivial⟩)) ⟨Nat.zero_le _, Nat.le_refl _, Nat.le_refl _, (hdA_nil (splitL_ne c l)).symm, (hp.nilA 1).pik (by repeat (first | exact Pik.nil | exact Pik.refl _ | exact Rm.here | apply Rm.there | apply Pik.cons | apply Pik.skip))⟩
 clear hp
 rintro ⟨i, out, w, κo, vo⟩ s ⟨hi, ho, hwl, heq, hp⟩
 simp only at hi ho hwl heq hp
 refine Sm.seq ?_
 refine Sm.seqW ?_
 conv => whnf
 refine Sm.live [0, 1, 5, 6, 7, 11] ?_
 conv => whnf
 refine Sm.ofW ?_
 conv => whnf
 refine Br.mk (fun hc => ?_) (fun hc => ?_)
 · have hc : i < l.length := by have : (i : Int) < ((l.length : Nat) : Int) := of_decide_eq_true hc; omega
   have hd : l.drop i = l[i] :: l.drop (i + 1) := List.drop_eq_getElem_cons hc
   rw [hd] at heq
   have ei : IntKind.i64.wrap ((i : Int) + 1) = ((i + 1 : Nat) : Int) := by rw [wi64 (by omega) (by omega)]; omega
   have hsub1 : (l.drop i).take (i + 1 - i) = [l[i]] := by rw [hd, show i + 1 - i = 1 by omega]; rfl
   generalize hx : l[i] = x at *
   conv => whnf
   refine Sm.seq ?_
   refine Sm.block ?_
   refine Sm.seqW ?_
   conv => whnf
   refine Om.of _ (str_index Tryz.underlying9 (l := l) (i := i) hc .i64) ?_
   conv => whnf
   rw [hx]
   refine Sm.ofW ?_
   conv => whnf
   have hu : (((x.toNat : Nat) : Int) == ((c.toNat : Nat) : Int)) = decide (x = c) := by
    rw [Bool.eq_iff_iff, beq_iff_eq, decide_eq_true_iff]
    exact ⟨fun h => UInt8.toNat_inj.1 (Int.ofNat.inj h), fun h => by rw [h]⟩
   by_cases hxc : x = c
   · refine Br.yes (hu.trans (decide_eq_true hxc)) ?_
     subst hxc
     rw [splitL_hd] at heq
     conv => whnf
     refine hp.lit (cs := [sv w]) (e := 1) (by rfl) ?_
     clear hp
     intro b4 s4 hp _
     conv => whnf
     have x4 := hp.blkSl (n := 1) (C := [sv w]) (k := b4) (b := b4) (e := 1) .d rfl
     refine hp.app SG Tryz.underlying95 rfl (κ := κo) (v := vo) .d (elems_sl x4) rfl rfl (by omega) ?_
     clear hp x4
     intro v5 κ5 s hp
     have e1 : out.map sv ++ [sv w] = (out ++ [w]).map sv := by simp
     rw [e1, show out.length + 1 = (out ++ [w]).length by simp] at hp
     conv => whnf
     refine Sm.ofW ?_
     conv => whnf
     exact ⟨(i + 1, out ++ [w], [], κ5, v5), by (show l.length - (i + 1) < l.length - i); omega, subK_ok (by refine ⟨rfl, rfl, rfl, rfl, congrArg (fun x => some (Value.int .i64 x)) ei, trivial⟩), by (show i + 1 ≤ l.length); omega, by (show (out ++ [w]).length ≤ i + 1); simp; omega, by (show 0 ≤ i + 1); omega, by
      show splitL x l = (out ++ [w]) ++ hdA [] (splitL x (l.drop (i + 1)))
      rw [heq, hdA_nil (splitL_ne x _)]
      unfold hdA
      simp, hp.pik (by repeat (first | exact Pik.nil | exact Pik.refl _ | exact Rm.here | apply Rm.there | apply Pik.cons | apply Pik.skip))⟩
   · refine Br.no (hu.trans (decide_eq_false hxc)) ?_
     obtain ⟨y, r, hyr⟩ : ∃ y r, splitL c (l.drop (i + 1)) = y :: r := by
      cases hs : splitL c (l.drop (i + 1)) with
      | nil => exact absurd hs (splitL_ne c _)
      | cons y r => exact ⟨y, r, rfl⟩
     rw [splitL_cons hxc hyr] at heq
     conv => whnf
     rw [ei]
     refine Om.of _ (str_slice Tryz.underlying9 (l := l) .i64 .i64 (some i) (some (i + 1)) (by simp) (by simp only [Option.getD_some]; omega)) ?_
     conv => whnf
     simp only [Option.getD_some]
     rw [hsub1]
     refine Om.of _ (sv_add w [x] (by simp; omega)) ?_
     conv => whnf
     refine Sm.ofW ?_
     conv => whnf
     exact ⟨(i + 1, out, w ++ [x], κo, vo), by (show l.length - (i + 1) < l.length - i); omega, subK_ok (by refine ⟨rfl, rfl, rfl, rfl, congrArg (fun x => some (Value.int .i64 x)) ei, trivial⟩), by (show i + 1 ≤ l.length); omega, by (show out.length ≤ i + 1); omega, by (show (w ++ [x]).length ≤ i + 1); simp; omega, by
      show splitL c l = out ++ hdA (w ++ [x]) (splitL c (l.drop (i + 1)))
      rw [heq, hyr]
      unfold hdA
      simp, hp.pik (by repeat (first | exact Pik.nil | exact Pik.refl _ | exact Rm.here | apply Rm.there | apply Pik.cons | apply Pik.skip))⟩
 · have hc : i = l.length := by have : ¬ (i : Int) < ((l.length : Nat) : Int) := of_decide_eq_false hc; omega
   subst hc
   rw [List.drop_length] at heq
   have heq : splitL c l = out ++ [w] := by rw [heq]; unfold hdA splitL; simp
   conv => whnf
   refine Sm.seqW ?_
   conv => whnf
   refine hp.lit (cs := [sv w]) (e := 1) (by rfl) ?_
   clear hp
   intro b4 s4 hp _
   conv => whnf
   have x4 := hp.blkSl (n := 1) (C := [sv w]) (k := b4) (b := b4) (e := 1) .d rfl
   refine hp.app SG Tryz.underlying95 rfl (κ := κo) (v := vo) .d (elems_sl x4) rfl rfl (by omega) ?_
   clear hp x4
   intro v5 κ5 s hp
   have e1 : out.map sv ++ [sv w] = (splitL c l).map sv := by rw [heq]; simp
   rw [e1, show out.length + 1 = (splitL c l).length by rw [heq]; simp] at hp
   conv => whnf
   refine Sm.live [4] ?_
   conv => whnf
   refine Sm.ofW ?_
   conv => whnf
   exact ⟨hp.fr, hp.out .d⟩
end

/- The document's lines read, walked. No condition. -/
section
variable [Lk]
theorem rneedless_spec (s : St) (l : List UInt8) : Cw Tryz.prog 89 [sv l] s fun r s' => s' = s ∧ r = .bool (lessN l) := by
 refine Cw.enterS Tryz.func89 rfl rfl ?_
 refine Sm.seqW ?_
 conv => whnf
 refine Sm.live [0] ?_
 conv => whnf
 refine Sm.seq ?_
 refine Sm.mono (Q := fun e L' s' => e = .normal ∧ s' = s ∧ Sub [(0, sv (bodyF l))] L') ?_ ?_
 · refine Sm.seq ?_
   refine Sm.ofW ?_
   conv => whnf
   cases l with
   | nil =>
     repeat ((first | refine Br.y1 ?_ | refine Br.n1 ?_); conv => whnf)
     refine Sm.ofW ?_
     conv => whnf
     repeat ((first | refine Br.y1 ?_ | refine Br.n1 ?_); conv => whnf)
     exact ⟨rfl, rfl, subK_ok ⟨rfl, trivial⟩⟩
   | cons x t =>
     have q : decide ((((bs ⟨(x :: t).toArray⟩).length : Nat) : Int) > 0) = true := decide_eq_true (by show (((x :: t).length : Nat) : Int) > 0; simp only [List.length_cons]; omega)
     repeat (first | (refine Br.yes q ?_; conv => whnf) | ((first | refine Br.y1 ?_ | refine Br.n1 ?_); conv => whnf))
     refine Om.of _ (str_index Tryz.underlying9 (l := x :: t) (i := 0) (by simp) .i64) ?_
     conv => whnf
     repeat (first | (refine Br.yes q ?_; conv => whnf) | ((first | refine Br.y1 ?_ | refine Br.n1 ?_); conv => whnf))
     by_cases h : x = 45
     · subst h
       refine Sm.ofW ?_
       conv => whnf
       repeat ((first | refine Br.y1 ?_ | refine Br.n1 ?_); conv => whnf)
       refine Om.of _ (str_drop Tryz.underlying9 (l := 45 :: t) (j := 1) .i64 (by simp)) ?_
       conv => whnf
       exact ⟨rfl, rfl, subK_ok ⟨rfl, trivial⟩⟩
     · have hx : (((((x :: t)[0]'(by simp)).toNat : Nat) : Int) == 45) = false := by
        show (((x.toNat : Nat) : Int) == 45) = false
        rw [beq_eq_false_iff_ne]
        exact fun e => h (UInt8.toNat_inj.1 (Int.ofNat.inj e))
       have hb : bodyF (x :: t) = x :: t := by
        unfold bodyF
        rw [if_neg]
        unfold hasP
        simp [h]
       refine Sm.ofW ?_
       conv => whnf
       refine Br.no hx ?_
       conv => whnf
       exact ⟨rfl, rfl, subK_ok ⟨by rw [hb]; rfl, trivial⟩⟩
 rintro e L' s' ⟨rfl, rfl, hs⟩
 refine Sm.weak _ hs ?_
 clear hs
 refine Sm.ofW ?_
 conv => whnf
 unfold lessN
 cases bodyF l with
 | nil =>
   repeat ((first | refine Br.y1 ?_ | refine Br.n1 ?_); conv => whnf)
   exact ⟨rfl, rfl⟩
 | cons a r =>
   cases r with
   | nil =>
     repeat ((first | refine Br.y1 ?_ | refine Br.n1 ?_); conv => whnf)
     exact ⟨rfl, rfl⟩
   | cons b r =>
     have q : decide ((((bs ⟨(a :: b :: r).toArray⟩).length : Nat) : Int) > 1) = true := decide_eq_true (by show (((a :: b :: r).length : Nat) : Int) > 1; simp only [List.length_cons]; omega)
     repeat (first | (refine Br.yes q ?_; conv => whnf) | ((first | refine Br.y1 ?_ | refine Br.n1 ?_); conv => whnf))
     refine Om.of _ (str_index Tryz.underlying9 (l := a :: b :: r) (i := 0) (by simp) .i64) ?_
     conv => whnf
     repeat (first | (refine Br.yes q ?_; conv => whnf) | ((first | refine Br.y1 ?_ | refine Br.n1 ?_); conv => whnf))
     have e1 : ((((a :: b :: r)[0]'(by simp)).toNat : Nat) : Int) = ((a.toNat : Nat) : Int) := rfl
     rw [e1, u8_beq48]
     repeat (first | (refine Br.yes q ?_; conv => whnf) | ((first | refine Br.y1 ?_ | refine Br.n1 ?_); conv => whnf))
     cases h48 : a == 48 with
     | true =>
       repeat (first | (refine Br.yes h48 ?_; conv => whnf) | ((first | refine Br.y1 ?_ | refine Br.n1 ?_); conv => whnf))
       refine Om.of _ (str_index Tryz.underlying9 (l := a :: b :: r) (i := 1) (by simp) .i64) ?_
       conv => whnf
       repeat (first | (refine Br.yes h48 ?_; conv => whnf) | ((first | refine Br.y1 ?_ | refine Br.n1 ?_); conv => whnf))
       exact ⟨rfl, congrArg Value.bool (by show (!(((b.toNat : Nat) : Int) == 46)) = (a == 48 && !(b == 46)); rw [h48, Bool.true_and]; exact u8_bne46 b)⟩
     | false =>
       repeat (first | (refine Br.no h48 ?_; conv => whnf) | ((first | refine Br.y1 ?_ | refine Br.n1 ?_); conv => whnf))
       exact ⟨rfl, congrArg Value.bool (by show false = (a == 48 && !(b == 46)); rw [h48]; rfl)⟩
def tailR (a b : List UInt8) (w : Int) : Ln × Int := if lessN b = true then (Ln.zero, 2) else if (readD b).2 ≠ 0 then (Ln.zero, (readD b).2) else if printF (readD b).1 ≠ b then (Ln.zero, 2) else (⟨smallF a, (readD b).1, w⟩, 0)
theorem oneR_no {t : List UInt8} (h : (splitL 58 t).length ≠ 2) : oneR t = (Ln.zero, 2) := by
 unfold oneR
 split
 · rename_i hs; rw [hs] at h; exact absurd rfl h
 · rfl
theorem oneR_neg {t a r : List UInt8} (h : splitL 58 t = [a, r]) (ha : smallF a < 0 ∨ 2 < (splitL 64 r).length) : oneR t = (Ln.zero, 2) := by
 unfold oneR
 rw [h]
 simp only
 split
 · rename_i hs
   rcases ha with ha | ha
   · rw [if_pos ha]
   · rw [hs] at ha; simp at ha
 · rename_i hs
   rcases ha with ha | ha
   · rw [if_pos ha]
   · rw [hs] at ha; simp at ha
 · rfl
theorem oneR_1 {t a r b : List UInt8} (h : splitL 58 t = [a, r]) (h2 : splitL 64 r = [b]) (ha : ¬ smallF a < 0) : oneR t = tailR a b (-1) := by
 unfold oneR
 rw [h]
 simp only
 rw [h2]
 simp only
 rw [if_neg ha]; rfl
theorem oneR_2 {t a r b w : List UInt8} (h : splitL 58 t = [a, r]) (h2 : splitL 64 r = [b, w]) (ha : ¬ smallF a < 0) : oneR t = if smallF w < 0 then (Ln.zero, 2) else tailR a b (smallF w) := by
 unfold oneR
 rw [h]
 simp only
 rw [h2]
 simp only
 rw [if_neg ha]; rfl
theorem rreadLine_spec {z : St} (wf : WF z) (l : List UInt8) (hl : l.length ≤ 10000000000000) :
  Cw Tryz.prog 66 [sv l] z fun r s' => K0 z s' ∧ r = .tuple #[(oneR l).1.val, .int .i64 (oneR l).2] := by
 have hp : Hp (fun _ => False) z [] [] z := Hp.start _ wf _ (by simp)
 refine Cw.enterS Tryz.func66 rfl rfl ?_
 refine Sm.seqW ?_
 conv => whnf
 refine hp.alloc (cs := Ln.zero.cells) (e := 6) rfl rfl rfl rfl rfl ?_
 clear hp
 intro p2 s hp _
 conv => whnf
 refine Sm.live [0, 2] ?_
 conv => whnf
 refine Sm.seqW ?_
 conv => whnf
 refine hp.alloc (cs := Ln.zero.cells) (e := 6) rfl rfl rfl rfl rfl ?_
 clear hp
 intro p4 s hp _
 conv => whnf
 refine hp.storeW (vs := (Ln.mk 0 Dc.zero (-1)).cells) rfl .d csx rfl rfl rfl ?_
 clear hp
 intro s hp _
 conv => whnf
 refine Sm.live [0, 2, 4] ?_
 conv => whnf
 refine Sm.seqW ?_
 conv => whnf
 refine hp.callO (rcut_spec hp.wf l hl 58) ?_
 clear hp
 intro v5 κ5 s hp _
 have hml : ∀ w ∈ splitL 58 l, w.length ≤ l.length := fun w hw => mem_split_len hw
 obtain ⟨a5, c5, rfl⟩ := (hp.slF (κ := κ5) (v := v5) .d).shape
 conv => whnf
 refine Sm.live [2, 4, 5] ?_
 conv => whnf
 refine Sm.seq ?_
 refine Sm.seqW ?_
 conv => whnf
 refine Sm.ofW ?_
 conv => whnf
 generalize hs : splitL 58 l = T5 at *
 by_cases h2 : T5.length = 2
 · refine Br.no (by show (!(((T5.length : Nat) : Int) == 2)) = false; rw [beq_iff_eq.2 (by omega)]; rfl) ?_
   obtain ⟨a, r, rfl⟩ : ∃ a r, T5 = [a, r] := by
    match T5, h2 with
    | [a, r], _ => exact ⟨a, r, rfl⟩
   clear h2
   have hal := hml a (by simp)
   have hrl := hml r (by simp)
   clear hml
   obtain ⟨e1, f1, f2⟩ := index_sv (hp.slF (κ := κ5) (v := .slice a5 [a, r].length c5) .d) .i64 (i := 1) (by simp)
   conv => whnf
   refine Sm.seqW ?_
   conv => whnf
   refine Om.of _ (f1) ?_
   conv => whnf
   refine Om.of _ (f2) ?_
   conv => whnf
   refine hp.callO (rcut_spec hp.wf r (by omega) 64) ?_
   clear hp
   intro v6 κ6 s hp _
   have hml : ∀ w ∈ splitL 64 r, w.length ≤ r.length := fun w hw => mem_split_len hw
   obtain ⟨a6, c6, rfl⟩ := (hp.slF (κ := κ6) (v := v6) .d).shape
   have hne := splitL_ne 64 r
   generalize hs6 : splitL 64 r = T6 at *
   conv => whnf
   refine Sm.live [2, 4, 5, 6] ?_
   conv => whnf
   refine Sm.seqW ?_
   conv => whnf
   obtain ⟨e0, f1, f2⟩ := index_sv (hp.slF (κ := κ5) (v := .slice a5 [a, r].length c5) .d) .i64 (i := 0) (by simp)
   refine Om.of _ (f1) ?_
   conv => whnf
   refine Om.of _ (f2) ?_
   conv => whnf
   refine hp.call (rsmall_spec hp.wf a (by omega)) ?_
   clear hp
   rintro _ s rfl hp _
   conv => whnf
   refine hp.store (off := 0) .d (by show 0 < 6; decide) rfl rfl rfl rfl ?_
   clear hp
   intro s hp _
   replace hp : Hp (fun _ => False) z [] [blkA p4 p4 (Ln.mk (smallF a) Dc.zero (-1)).cells 6, onA κ6 (.slice a6 T6.length c6) 1 T6.length (T6.map sv), blkA p2 p2 Ln.zero.cells 6] s := hp.pik (by repeat (first | exact Pik.nil | exact Pik.refl _ | exact Rm.here | apply Rm.there | apply Pik.cons | apply Pik.skip))
   conv => whnf
   refine Sm.live [2, 4, 6] ?_
   conv => whnf
   refine Sm.seq ?_
   refine Sm.seqC (fun e' L' s' => e' = .normal ∧ s' = s ∧ Sub [(2, .pointer (some ⟨p2, 0, none⟩)), (4, .pointer (some ⟨p4, 0, none⟩)), (6, .slice a6 T6.length c6), (32, .bool (decide (smallF a < 0 ∨ 2 < T6.length)))] L') ?_ ?_
   · conv => whnf
     refine hp.load (v := .int .i64 (smallF a)) .d (by rfl) rfl rfl rfl ?_
     conv => whnf
     by_cases q0 : smallF a < 0
     · have q1 : decide (smallF a < 0) = true := decide_eq_true q0
       repeat (first | (refine Br.yes q1 ?_; conv => whnf) | ((first | refine Br.y1 ?_ | refine Br.n1 ?_); conv => whnf))
       exact ⟨rfl, rfl, subK_ok ⟨rfl, rfl, rfl, congrArg (fun x => some (Value.bool x)) (decide_eq_true (.inl q0)).symm, trivial⟩⟩
     · have q1 : decide (smallF a < 0) = false := decide_eq_false q0
       repeat (first | (refine Br.no q1 ?_; conv => whnf) | ((first | refine Br.y1 ?_ | refine Br.n1 ?_); conv => whnf))
       exact ⟨rfl, rfl, subK_ok ⟨rfl, rfl, rfl, congrArg (fun x => some (Value.bool x)) (decide_eq_decide.2 ⟨fun h => .inr (by omega), fun h => by rcases h with h | h; exact absurd h q0; omega⟩), trivial⟩⟩
   rintro e L' s' ⟨rfl, rfl, hs⟩
   refine Sm.weak _ hs ?_
   clear hs
   refine Sm.ofW ?_
   conv => whnf
   by_cases hneg : smallF a < 0 ∨ 2 < T6.length
   · refine Br.yes (decide_eq_true hneg) ?_
     rw [oneR_neg hs (by rw [hs6]; exact hneg)]
     conv => whnf
     refine hp.storeW (vs := Ln.zero.cells) rfl .d csx rfl rfl rfl ?_
     clear hp
     intro s hp _
     conv => whnf
     refine hp.loadA (l := Ln.zero.cells) .d rfl (by rfl) rfl rfl ?_
     conv => whnf
     exact ⟨hp.fr, rfl⟩
   · refine Br.no (decide_eq_false hneg) ?_
     have ha : ¬ smallF a < 0 := fun h => hneg (.inl h)
     obtain ⟨b, T, rfl⟩ := List.exists_cons_of_ne_nil hne
     have hbl := hml b (by simp)
     have hT : T.length ≤ 1 := by have := fun h => hneg (.inr h); simp at this; omega
     conv => whnf
     refine Sm.seq ?_
     refine Sm.mono (Q := fun e' L' s2 => (e' = .normal ∧ ∃ w, oneR l = tailR a b w ∧ Hp (fun _ => False) z [] [blkA p4 p4 (Ln.mk (smallF a) Dc.zero w).cells 6, onA κ6 (.slice a6 (b :: T).length c6) 1 (b :: T).length ((b :: T).map sv), blkA p2 p2 Ln.zero.cells 6] s2 ∧ Sub [(2, .pointer (some ⟨p2, 0, none⟩)), (4, .pointer (some ⟨p4, 0, none⟩)), (6, .slice a6 (b :: T).length c6)] L') ∨ (e' = .ret ∧ retK Tryz.prog Tryz.f66.results.toList (fun r s' => K0 z s' ∧ r = .tuple #[(oneR l).1.val, .int .i64 (oneR l).2]) .ret L' s2)) ?_ ?_
     · refine Sm.seqW ?_
       conv => whnf
       refine Sm.ofW ?_
       conv => whnf
       cases T with
       | nil =>
         repeat ((first | refine Br.y1 ?_ | refine Br.n1 ?_); conv => whnf)
         exact .inl ⟨rfl, -1, oneR_1 hs hs6 ha, hp, subK_ok ⟨rfl, rfl, rfl, trivial⟩⟩
       | cons w T =>
         obtain rfl : T = [] := List.length_eq_zero_iff.1 (by have : (w :: T).length = T.length + 1 := rfl; omega)
         have hwl := hml w (by simp)
         repeat ((first | refine Br.y1 ?_ | refine Br.n1 ?_); conv => whnf)
         obtain ⟨e1, f1, f2⟩ := index_sv (hp.slF (κ := κ6) (v := .slice a6 [b, w].length c6) .d) .i64 (i := 1) (by simp)
         refine Om.of _ (f1) ?_
         conv => whnf
         refine Om.of _ (f2) ?_
         conv => whnf
         refine hp.call (rsmall_spec hp.wf w (by omega)) ?_
         clear hp
         rintro _ s rfl hp _
         conv => whnf
         refine hp.store (off := 5) .d (by show 5 < 6; decide) rfl rfl rfl rfl ?_
         clear hp
         intro s hp _
         replace hp : Hp (fun _ => False) z [] [blkA p4 p4 (Ln.mk (smallF a) Dc.zero (smallF w)).cells 6, onA κ6 (.slice a6 [b, w].length c6) 1 [b, w].length ([b, w].map sv), blkA p2 p2 Ln.zero.cells 6] s := hp.pik (by repeat (first | exact Pik.nil | exact Pik.refl _ | exact Rm.here | apply Rm.there | apply Pik.cons | apply Pik.skip))
         conv => whnf
         refine hp.load (v := .int .i64 (smallF w)) .d (by rfl) rfl rfl rfl ?_
         conv => whnf
         have ho := oneR_2 hs hs6 ha
         by_cases hw : smallF w < 0
         · rw [if_pos hw] at ho
           refine Br.yes (decide_eq_true hw) ?_
           conv => whnf
           refine hp.storeW (vs := Ln.zero.cells) rfl .d csx rfl rfl rfl ?_
           clear hp
           intro s hp _
           conv => whnf
           refine .inr ⟨rfl, ?_⟩
           conv => whnf
           refine hp.loadA (l := Ln.zero.cells) .d rfl (by rfl) rfl rfl ?_
           conv => whnf
           exact ⟨hp.fr, by rw [ho]; rfl⟩
         · rw [if_neg hw] at ho
           refine Br.no (decide_eq_false hw) ?_
           conv => whnf
           exact .inl ⟨rfl, smallF w, ho, hp, subK_ok ⟨rfl, rfl, rfl, trivial⟩⟩
     clear hp
     rintro e' L' s (⟨rfl, w, ho, hp, hs⟩ | ⟨rfl, hh⟩)
     · refine Sm.weak _ hs ?_
       clear hs
       rw [ho]
       unfold tailR
       refine Sm.seqW ?_
       conv => whnf
       obtain ⟨e1, f1, f2⟩ := index_sv (hp.slF (κ := κ6) (v := .slice a6 (b :: T).length c6) .d) .i64 (i := 0) (by simp)
       refine Om.of _ (f1) ?_
       conv => whnf
       refine Om.of _ (f2) ?_
       conv => whnf
       refine hp.call (rread_spec hp.wf b (by show b.length < _; omega)) ?_
       clear hp
       rintro _ s rfl hp _
       conv => whnf
       rw [readF_D]
       have hdc := readD_c b
       generalize readD b = d at *
       obtain ⟨d, e⟩ := d
       simp only at hdc ⊢
       conv => whnf
       refine hp.alloc (cs := Dc.zero.cells) (e := 4) rfl rfl rfl rfl rfl ?_
       clear hp
       intro p7 s hp _
       conv => whnf
       refine hp.storeW (vs := d.cells) rfl .d csx rfl rfl rfl ?_
       clear hp
       intro s hp _
       conv => whnf
       refine Sm.live [2, 4, 6, 7, 8] ?_
       conv => whnf
       refine Sm.seq ?_
       refine Sm.seqW ?_
       conv => whnf
       obtain ⟨e1, f1, f2⟩ := index_sv (hp.slF (κ := κ6) (v := .slice a6 (b :: T).length c6) .d) .i64 (i := 0) (by simp)
       refine Om.of _ (f1) ?_
       conv => whnf
       refine Om.of _ (f2) ?_
       conv => whnf
       refine (rneedless_spec _ b).mono ?_
       rintro _ s1 ⟨h1, rfl⟩
       obtain rfl := h1.symm
       conv => whnf
       refine Sm.ofW ?_
       conv => whnf
       cases hn : lessN b with
       | true =>
         rw [if_pos rfl]
         repeat ((first | refine Br.y1 ?_ | refine Br.n1 ?_); conv => whnf)
         refine hp.storeW (vs := Ln.zero.cells) rfl .d csx rfl rfl rfl ?_
         clear hp
         intro s hp _
         conv => whnf
         refine hp.loadA (l := Ln.zero.cells) .d rfl (by rfl) rfl rfl ?_
         conv => whnf
         exact ⟨hp.fr, rfl⟩
       | false =>
         rw [if_neg (by decide)]
         repeat ((first | refine Br.y1 ?_ | refine Br.n1 ?_); conv => whnf)
         refine Sm.seq ?_
         refine Sm.seqW ?_
         conv => whnf
         refine Sm.ofW ?_
         conv => whnf
         by_cases he : e = 0
         · subst he
           rw [if_neg (by simp)]
           repeat ((first | refine Br.y1 ?_ | refine Br.n1 ?_); conv => whnf)
           refine Sm.seq ?_
           refine Sm.seqW ?_
           conv => whnf
           refine ⟨[0, 1, 0, 4, 12, 31], by decide +kernel, by decide +kernel, ?_⟩
           conv => whnf
           refine hp.loadA (l := d.cells) .d rfl (by rfl) rfl rfl ?_
           conv => whnf
           refine hp.rst.call (rprint_spec hp.rst.wf d hdc) ?_
           rintro _ s1 rfl h1 k1
           conv => whnf
           refine hp.dkN h1 k1 ?_
           clear hp h1 k1
           intro s hp
           conv => whnf
           obtain ⟨e1, f1, f2⟩ := index_sv (hp.slF (κ := κ6) (v := .slice a6 (b :: T).length c6) .d) .i64 (i := 0) (by simp)
           refine Om.of _ (f1) ?_
           conv => whnf
           refine Om.of _ (f2) ?_
           conv => whnf
           refine Om.of _ (sv_ne (printF d) b) ?_
           conv => whnf
           refine Sm.live [2, 4, 7, 67] ?_
           conv => whnf
           refine Sm.ofW ?_
           conv => whnf
           cases hq : printF d == b with
           | true =>
             rw [if_neg (by rw [beq_iff_eq.1 hq]; simp)]
             repeat ((first | refine Br.y1 ?_ | refine Br.n1 ?_); conv => whnf)
             refine Sm.seqW ?_
             conv => whnf
             refine hp.loadA (l := d.cells) .d rfl (by rfl) rfl rfl ?_
             conv => whnf
             refine hp.storeA (off := 1) (vs := d.cells) rfl .d (by show 1 + 4 ≤ 6; decide) rfl rfl rfl ?_
             clear hp
             intro s hp _
             replace hp : Hp (fun _ => False) z [] [blkA p4 p4 (Ln.mk (smallF a) d w).cells 6, blkA p2 p2 Ln.zero.cells 6] s := hp.pik (by repeat (first | exact Pik.nil | exact Pik.refl _ | exact Rm.here | apply Rm.there | apply Pik.cons | apply Pik.skip))
             conv => whnf
             refine Sm.live [2, 4] ?_
             conv => whnf
             refine Sm.seqW ?_
             conv => whnf
             refine hp.loadA (l := (Ln.mk (smallF a) d w).cells) .d rfl (by rfl) rfl rfl ?_
             conv => whnf
             refine hp.storeW (vs := (Ln.mk (smallF a) d w).cells) rfl .d csx rfl rfl rfl ?_
             clear hp
             intro s hp _
             conv => whnf
             refine Sm.live [2, 3] ?_
             conv => whnf
             refine Sm.ofW ?_
             conv => whnf
             refine hp.loadA (l := (Ln.mk (smallF a) d w).cells) .d rfl (by rfl) rfl rfl ?_
             conv => whnf
             exact ⟨hp.fr, rfl⟩
           | false =>
             rw [if_pos (beq_eq_false_iff_ne.1 hq)]
             repeat ((first | refine Br.y1 ?_ | refine Br.n1 ?_); conv => whnf)
             refine hp.storeW (vs := Ln.zero.cells) rfl .d csx rfl rfl rfl ?_
             clear hp
             intro s hp _
             conv => whnf
             refine hp.loadA (l := Ln.zero.cells) .d rfl (by rfl) rfl rfl ?_
             conv => whnf
             exact ⟨hp.fr, rfl⟩
         · rw [if_pos he]
           refine Br.yes (by show (!(e == 0)) = true; rw [beq_eq_false_iff_ne.2 he]; rfl) ?_
           conv => whnf
           refine hp.storeW (vs := Ln.zero.cells) rfl .d csx rfl rfl rfl ?_
           clear hp
           intro s hp _
           conv => whnf
           refine hp.loadA (l := Ln.zero.cells) .d rfl (by rfl) rfl rfl ?_
           conv => whnf
           exact ⟨hp.fr, rfl⟩
     · exact hh
 · refine Br.yes (by show (!(((T5.length : Nat) : Int) == 2)) = true; rw [beq_eq_false_iff_ne.2 (by omega)]; rfl) ?_
   rw [oneR_no (by rw [hs]; exact h2)]
   conv => whnf
   refine hp.storeW (vs := Ln.zero.cells) rfl .d csx rfl rfl rfl ?_
   clear hp
   intro s hp _
   conv => whnf
   refine hp.loadA (l := Ln.zero.cells) .d rfl (by rfl) rfl rfl ?_
   conv => whnf
   exact ⟨hp.fr, rfl⟩
end

/- The document's lines read, printed and turned, walked. No condition. -/
section
variable [Lk]
theorem rreadLines_spec {z : St} (wf : WF z) (l : List UInt8) (hl : l.length ≤ 10000000000000) :
  Cw Tryz.prog 27 [sv l] z fun r s' => K0 z s' ∧ ∃ w, r = .tuple #[w, .int .i64 (readL l).2] ∧ OwnN z.next s' w 6 (readL l).1.length (lnC (readL l).1) := by
 have hp : Hp (fun _ => False) z [] [] z := Hp.start _ wf _ (by simp)
 have hml : ∀ w ∈ splitL 44 l, w.length ≤ l.length := fun w hw => mem_split_len hw
 have hread : readL l = (if 8 < (splitL 44 l).length then ([], 2) else
  if ((splitL 44 l).any fun t => (oneF t).2 == 2) = true then ([], 2) else
  if ((splitL 44 l).any fun t => !((oneF t).2 == 0)) = true then ([], 3) else ((splitL 44 l).map fun t => (oneF t).1, 0)) := rfl
 rw [hread]
 clear hread
 refine Cw.enterS Tryz.func27 rfl rfl ?_
 refine Sm.seqW ?_
 conv => whnf
 refine Sm.live [0] ?_
 conv => whnf
 refine Sm.seqW ?_
 conv => whnf
 refine Sm.live [0, 4] ?_
 conv => whnf
 refine Sm.seqW ?_
 conv => whnf
 refine hp.callO (rcut_spec hp.wf l hl 44) ?_
 clear hp
 intro w κ s hp _
 generalize splitL 44 l = T at *
 obtain ⟨a, cp, rfl⟩ := (hp.slF (κ := κ) (v := w) .d).shape
 conv => whnf
 refine Sm.live [4, 5] ?_
 conv => whnf
 refine Sm.seq ?_
 refine Sm.seqW ?_
 conv => whnf
 refine Sm.live [4, 5, 14] ?_
 conv => whnf
 refine Sm.ofW ?_
 conv => whnf
 by_cases h8 : 8 < T.length
 · rw [if_pos h8]
   have q : decide (((T.length : Nat) : Int) > 8) = true := decide_eq_true (by omega)
   refine Br.yes q ?_
   conv => whnf
   exact ⟨hp.fr, _, rfl, ⟨.inl ⟨rfl, rfl, rfl⟩⟩⟩
 rw [if_neg h8]
 refine Br.no (decide_eq_false (by omega)) ?_
 conv => whnf
 refine Sm.seqW ?_
 conv => whnf
 refine Sm.live [4, 5, 6] ?_
 conv => whnf
 refine Sm.seq ?_
 refine Sm.seqW ?_
 conv => whnf
 refine Sm.live [4, 5, 6, 7] ?_
 conv => whnf
 refine Sm.block ?_
 refine Sm.loop ?_
 refine Lp.ofS (α := Nat × Option Nat × Value) (fun x => [(4, x.2.2), (5, .slice a T.length cp), (6, .int .i64 (worstF (T.take x.1))), (7, .int .i64 (x.1 : Int))])
  (fun x s' => x.1 ≤ T.length ∧ (∀ t ∈ T.take x.1, (oneF t).2 ≠ 2) ∧ Hp (fun _ => False) z [] [onA x.2.1 x.2.2 6 x.1 (lnC ((T.take x.1).map fun t => (oneR t).1)), onA κ (.slice a T.length cp) 1 T.length (T.map sv)] s') (fun x => T.length - x.1) ?_ (0, none, .slice none 0 0) (subK_ok (by refine ⟨rfl, rfl, rfl, rfl, trivial⟩)) ⟨Nat.zero_le _, fun t ht => (by cases ht), (hp.nilA 6).pik (by repeat (first | exact Pik.nil | exact Pik.refl _ | exact Rm.here | apply Rm.there | apply Pik.cons | apply Pik.skip))⟩
 clear hp
 rintro ⟨i, κo, vo⟩ s ⟨hi, hno, hp⟩
 simp only at hi hno hp
 refine Sm.seq ?_
 refine Sm.seqW ?_
 conv => whnf
 refine Sm.live [4, 5, 6, 7, 18] ?_
 conv => whnf
 refine Sm.ofW ?_
 conv => whnf
 refine Br.mk (fun hc => ?_) (fun hc => ?_)
 · have hc : i < T.length := by have : (i : Int) < ((T.length : Nat) : Int) := of_decide_eq_true hc; omega
   obtain ⟨e, g1, g2⟩ := index_sv (hp.slF (κ := κ) (v := .slice a T.length cp) .d) .i64 hc
   have htk : T.take (i + 1) = T.take i ++ [T[i]] := List.take_succ_eq_append_getElem hc
   have hmem : T[i] ∈ T := List.getElem_mem hc
   have hlt := hml _ hmem
   generalize hw : T[i] = t at *
   have hos := (one_same t).1
   have hoe := oneF_e t
   conv => whnf
   refine Sm.seq ?_
   refine Sm.block ?_
   refine Sm.seqW ?_
   conv => whnf
   refine Om.of _ (g1) ?_
   conv => whnf
   refine Om.of _ (g2) ?_
   conv => whnf
   refine hp.call (rreadLine_spec hp.wf t (by omega)) ?_
   clear hp
   rintro _ s rfl hp _
   conv => whnf
   have hwo := worst_snoc (T.take i) t
   rw [hos] at hwo hoe
   refine hp.alloc (cs := Ln.zero.cells) (e := 6) rfl rfl rfl rfl rfl ?_
   clear hp
   intro p8 s hp _
   conv => whnf
   refine hp.storeW (vs := (oneR t).1.cells) rfl .d csx rfl rfl rfl ?_
   clear hp
   intro s hp _
   conv => whnf
   refine Sm.live [4, 5, 6, 7, 8, 9] ?_
   conv => whnf
   by_cases h2 : (oneR t).2 = 2
   · refine Sm.seq ?_
     refine Sm.seqW ?_
     conv => whnf
     refine Sm.ofW ?_
     conv => whnf
     have q : ((oneR t).2 == 3) = false := by rw [h2]; rfl
     have q2 : (!((oneR t).2 == 0)) = true := by rw [h2]; rfl
     repeat (first | (refine Br.no q ?_; conv => whnf) | (refine Br.yes q2 ?_; conv => whnf) | ((first | refine Br.y1 ?_ | refine Br.n1 ?_); conv => whnf))
     have hany : (T.any fun t => (oneF t).2 == 2) = true := List.any_eq_true.2 ⟨t, hmem, by rw [hos, h2]; rfl⟩
     rw [if_pos hany]
     exact ⟨hp.fr, _, by rw [h2]; rfl, ⟨.inl ⟨rfl, rfl, rfl⟩⟩⟩
   · have hwo := hwo h2
     refine Sm.seqC (fun e' L' s' => e' = .normal ∧ s' = s ∧ Sub [(4, vo), (5, .slice a T.length cp), (6, .int .i64 (worstF (T.take (i + 1)))), (7, .int .i64 (i : Int)), (8, .pointer (some ⟨p8, 0, none⟩))] L') ?_ ?_
     · conv => whnf
       rcases hoe with h0 | h0 | h0
       · have q : ((oneR t).2 == 3) = false := by rw [h0]; rfl
         have q2 : (!((oneR t).2 == 0)) = false := by rw [h0]; rfl
         repeat (first | (refine Br.no q ?_; conv => whnf) | (refine Br.no q2 ?_; conv => whnf) | ((first | refine Br.y1 ?_ | refine Br.n1 ?_); conv => whnf))
         exact ⟨rfl, rfl, subK_ok ⟨rfl, rfl, congrArg (fun x => some (Value.int .i64 x)) (by rw [htk, hwo, h0]; show _ = if worstF (T.take i) < 0 then _ else _; rw [if_neg (by unfold worstF; split <;> decide)]), rfl, rfl, trivial⟩⟩
       · exact absurd h0 h2
       · have q : ((oneR t).2 == 3) = true := by rw [h0]; rfl
         repeat (first | (refine Br.yes q ?_; conv => whnf) | ((first | refine Br.y1 ?_ | refine Br.n1 ?_); conv => whnf))
         exact ⟨rfl, rfl, subK_ok ⟨rfl, rfl, congrArg (fun x => some (Value.int .i64 x)) (by rw [htk, hwo, h0]; unfold worstF; split <;> rfl), rfl, rfl, trivial⟩⟩
     rintro e L' s' ⟨rfl, rfl, hs⟩
     refine Sm.weak _ hs ?_
     clear hs
     refine Sm.ofW ?_
     conv => whnf
     refine hp.loadA (l := (oneR t).1.cells) .d rfl (by rfl) rfl rfl ?_
     conv => whnf
     refine hp.lit (cs := (oneR t).1.cells) (e := 6) (by rfl) ?_
     clear hp
     intro b4 s4 hp _
     conv => whnf
     have x4 := hp.blkSl (n := 1) (C := (oneR t).1.cells) (k := b4) (b := b4) (e := 6) .d rfl
     refine hp.app LT Tryz.underlying24 rfl (κ := κo) (v := vo) .d (elems_sl x4) rfl rfl (by omega) ?_
     clear hp x4
     intro v5 κ5 s hp
     have e1 : lnC ((T.take i).map fun t => (oneR t).1) ++ (oneR t).1.cells = lnC ((T.take (i + 1)).map fun t => (oneR t).1) := by
      rw [htk, List.map_append, lnC_app]; simp [lnC]
     rw [e1] at hp
     conv => whnf
     refine Sm.ofW ?_
     conv => whnf
     exact ⟨(i + 1, κ5, v5), by (show T.length - (i + 1) < T.length - i); omega, subK_ok (by refine ⟨rfl, rfl, rfl, congrArg (fun x => some (Value.int .i64 x)) (show IntKind.i64.wrap ((i : Int) + 1) = ((i + 1 : Nat) : Int) by rw [wi64 (by omega) (by omega)]; omega), trivial⟩), by (show i + 1 ≤ T.length); omega, fun t' ht' => by
      have ht' : t' ∈ T.take (i + 1) := ht'
      rw [htk] at ht'
      rcases List.mem_append.1 ht' with g | g
      · exact hno t' g
      · obtain rfl := List.mem_singleton.1 g; rw [hos]; exact h2, hp.pik (by repeat (first | exact Pik.nil | exact Pik.refl _ | exact Rm.here | apply Rm.there | apply Pik.cons | apply Pik.skip))⟩
 · have hc : i = T.length := by have : ¬ (i : Int) < ((T.length : Nat) : Int) := of_decide_eq_false hc; omega
   subst hc
   rw [List.take_length] at hno hp
   have hno2 : ¬ (T.any fun t => (oneF t).2 == 2) = true := fun h => by
    obtain ⟨t, h1, h2⟩ := List.any_eq_true.1 h
    exact hno t h1 (beq_iff_eq.1 h2)
   rw [if_neg hno2]
   conv => whnf
   refine Sm.seq ?_
   refine Sm.seqW ?_
   conv => whnf
   refine Sm.ofW ?_
   conv => whnf
   show Br (!(worstF (T.take T.length) == 0)) _ _
   rw [List.take_length]
   unfold worstF
   cases hq : (T.any fun t => !((oneF t).2 == 0)) with
   | true =>
     rw [if_pos rfl]
     repeat ((first | refine Br.y1 ?_ | refine Br.n1 ?_); conv => whnf)
     exact ⟨hp.fr, _, rfl, ⟨.inl ⟨rfl, rfl, rfl⟩⟩⟩
   | false =>
     rw [if_neg (by decide)]
     repeat ((first | refine Br.y1 ?_ | refine Br.n1 ?_); conv => whnf)
     refine Sm.seqW ?_
     conv => whnf
     refine Sm.live [2, 3] ?_
     conv => whnf
     refine Sm.ofW ?_
     conv => whnf
     have hal : (T.map fun t => (oneR t).1) = T.map fun t => (oneF t).1 := List.map_congr_left fun t ht => congrArg Prod.fst ((one_same t).2 (by
      have h := List.any_eq_false.1 hq t ht
      simpa using h)).symm
     refine ⟨hp.fr, vo, rfl, ?_⟩
     have := hp.out .d
     rw [hal] at this
     show OwnN z.next s vo 6 (T.map fun t => (oneF t).1).length (lnC (T.map fun t => (oneF t).1))
     rw [List.length_map]
     exact this
end

/- The document's lines printed, walked. No condition. -/
section
variable [Lk]
theorem join_snoc {c : UInt8} : ∀ (L : List (List UInt8)) (y : List UInt8), joinL c (L ++ [y]) = (if L.length = 0 then [] else joinL c L ++ [c]) ++ y
 | [], y => by simp [joinL]
 | x :: r, y => by simp [joinL]
def preT (ls : List Ln) (i : Nat) : List UInt8 := joinL 44 ((ls.take i).map lineT)
theorem preT_le (ls : List Ln) (i : Nat) (h : i ≤ ls.length) : (preT ls i).length ≤ 40 * i := by
 have := lines_le (ls.take i)
 rw [List.length_take, Nat.min_eq_left h] at this
 exact this
theorem preT_snoc {ls : List Ln} {i : Nat} {x : Ln} (h : ls.take (i + 1) = ls.take i ++ [x]) (hi : i ≤ ls.length) : preT ls (i + 1) = (if i = 0 then [] else preT ls i ++ [44]) ++ lineT x := by
 unfold preT
 rw [h, List.map_append, List.map_singleton, join_snoc]
 simp only [List.length_map, List.length_take, Nat.min_eq_left hi]
theorem rprintLines_spec {z : St} (wf : WF z) {κ : Option Nat} {v : Value} {ls : List Ln} (hv : Sln z κ v ls) (hok : ∀ x ∈ ls, MemLn x) (hl : ls.length ≤ 1000) :
  Cw Tryz.prog 23 [v] z fun r s' => K0 z s' ∧ r = sv (printL ls) := by
 obtain ⟨a, cp, rfl⟩ := hv.shape
 have hp : Hp (fun _ => False) z [slA κ (.slice a ls.length cp) 6 ls.length (lnC ls)] [] z := Hp.start _ wf _ (by simp; exact hv)
 refine Cw.enterS Tryz.func23 rfl rfl ?_
 refine Sm.seqW ?_
 conv => whnf
 refine Sm.live [0] ?_
 conv => whnf
 refine Sm.seqW ?_
 conv => whnf
 refine Sm.live [0, 3] ?_
 conv => whnf
 refine Sm.seq ?_
 refine Sm.seqW ?_
 conv => whnf
 refine Sm.live [0, 3, 4] ?_
 conv => whnf
 refine Sm.block ?_
 refine Sm.loop ?_
 refine Lp.ofS (α := Nat) (fun i => [(0, .slice a ls.length cp), (3, sv (preT ls i)), (4, .int .i64 (i : Int))])
  (fun i s' => i ≤ ls.length ∧ (ls.take i).any badLn = false ∧ Hp (fun _ => False) z [slA κ (.slice a ls.length cp) 6 ls.length (lnC ls)] [] s') (fun i => ls.length - i) ?_ 0 (subK_ok (by refine ⟨rfl, rfl, rfl, trivial⟩)) ⟨Nat.zero_le _, rfl, hp⟩
 clear hp
 rintro i s ⟨hi, hno, hp⟩
 refine Sm.seq ?_
 refine Sm.seqW ?_
 conv => whnf
 refine Sm.live [0, 3, 4, 9] ?_
 conv => whnf
 refine Sm.ofW ?_
 conv => whnf
 refine Br.mk (fun hc => ?_) (fun hc => ?_)
 · have hc : i < ls.length := by have : (i : Int) < ((ls.length : Nat) : Int) := of_decide_eq_true hc; omega
   obtain ⟨e, g1, g2⟩ := index_ln (hp.slR (κ := κ) (v := .slice a ls.length cp) .here) .i64 hc
   have htk : ls.take (i + 1) = ls.take i ++ [ls[i]] := List.take_succ_eq_append_getElem hc
   have hmem : ls[i] ∈ ls := List.getElem_mem hc
   have hm := hok _ hmem
   have hpl := preT_le ls i hi
   generalize hw : ls[i] = x at *
   have hsn := preT_snoc htk hi
   conv => whnf
   refine Sm.seq ?_
   refine Sm.block ?_
   refine Sm.seqW ?_
   conv => whnf
   refine Om.of _ (g1) ?_
   conv => whnf
   refine Om.of _ (g2) ?_
   conv => whnf
   refine hp.alloc (cs := Ln.zero.cells) (e := 6) rfl rfl rfl rfl rfl ?_
   clear hp
   intro p5 s hp _
   conv => whnf
   refine hp.storeW (vs := x.cells) rfl .d csx rfl rfl rfl ?_
   clear hp
   intro s hp _
   conv => whnf
   refine Sm.live [0, 3, 4, 5] ?_
   conv => whnf
   refine Sm.seq ?_
   refine Sm.seqC (fun e' L' s' => e' = .normal ∧ Hp (fun _ => False) z [slA κ (.slice a ls.length cp) 6 ls.length (lnC ls)] [blkA p5 p5 x.cells 6] s' ∧ Sub [(0, .slice a ls.length cp), (3, sv (preT ls i)), (4, .int .i64 (i : Int)), (5, .pointer (some ⟨p5, 0, none⟩)), (29, .bool (badLn x))] L') ?_ ?_
   · conv => whnf
     have hbp : (!x.amt.right) = (printF x.amt == []) := by
      have := print_nil (d := x.amt)
      cases hr : x.amt.right with
      | true => rw [beq_eq_false_iff_ne.2 fun e => by rw [this.1 e] at hr; cases hr]; rfl
      | false => rw [this.2 hr]; rfl
     unfold badLn
     refine hp.load (v := .int .i64 x.acct) .d (by rfl) rfl rfl rfl ?_
     conv => whnf
     by_cases h1 : x.acct < 0
     · have q1 : decide (x.acct < 0) = true := decide_eq_true h1
       repeat (first | (refine Br.yes q1 ?_; conv => whnf) | ((first | refine Br.y1 ?_ | refine Br.n1 ?_); conv => whnf))
       exact ⟨rfl, hp, subK_ok ⟨rfl, rfl, rfl, rfl, congrArg (fun x => some (Value.bool x)) (by rw [q1]; rfl), trivial⟩⟩
     have q1 : decide (x.acct < 0) = false := decide_eq_false h1
     repeat (first | (refine Br.no q1 ?_; conv => whnf) | ((first | refine Br.y1 ?_ | refine Br.n1 ?_); conv => whnf))
     refine hp.load (v := .int .i64 x.wth) .d (by rfl) rfl rfl rfl ?_
     conv => whnf
     repeat (first | (refine Br.no q1 ?_; conv => whnf) | ((first | refine Br.y1 ?_ | refine Br.n1 ?_); conv => whnf))
     by_cases h2 : x.wth < -1
     · have q2 : decide (x.wth < -1) = true := decide_eq_true h2
       repeat (first | (refine Br.no q1 ?_; conv => whnf) | (refine Br.yes q2 ?_; conv => whnf) | ((first | refine Br.y1 ?_ | refine Br.n1 ?_); conv => whnf))
       exact ⟨rfl, hp, subK_ok ⟨rfl, rfl, rfl, rfl, congrArg (fun x => some (Value.bool x)) (by rw [q1, q2]; rfl), trivial⟩⟩
     have q2 : decide (x.wth < -1) = false := decide_eq_false h2
     repeat (first | (refine Br.no q1 ?_; conv => whnf) | (refine Br.no q2 ?_; conv => whnf) | ((first | refine Br.y1 ?_ | refine Br.n1 ?_); conv => whnf))
     refine hp.loadA (l := x.amt.cells) .d rfl (by rfl) rfl rfl ?_
     conv => whnf
     repeat (first | (refine Br.no q1 ?_; conv => whnf) | (refine Br.no q2 ?_; conv => whnf) | ((first | refine Br.y1 ?_ | refine Br.n1 ?_); conv => whnf))
     refine hp.call (rightDec_spec hp.wf x.amt hm.amt) ?_
     clear hp
     rintro _ s rfl hp _
     conv => whnf
     repeat (first | (refine Br.no q1 ?_; conv => whnf) | (refine Br.no q2 ?_; conv => whnf) | ((first | refine Br.y1 ?_ | refine Br.n1 ?_); conv => whnf))
     exact ⟨rfl, hp, subK_ok ⟨rfl, rfl, rfl, rfl, congrArg (fun x => some (Value.bool x)) (by rw [q1, q2, ← hbp]; rfl), trivial⟩⟩
   clear hp
   rintro e' L' s ⟨rfl, hp, hs⟩
   refine Sm.weak _ hs ?_
   clear hs
   refine Sm.ofW ?_
   conv => whnf
   cases hbad : badLn x with
   | true =>
     repeat (first | (refine Br.yes hbad ?_; conv => whnf) | ((first | refine Br.y1 ?_ | refine Br.n1 ?_); conv => whnf))
     refine ⟨hp.fr, ?_⟩
     have : ls.any badLn = true := List.any_eq_true.2 ⟨x, hmem, hbad⟩
     unfold printL
     rw [if_pos this]; rfl
   | false =>
     repeat (first | (refine Br.no hbad ?_; conv => whnf) | ((first | refine Br.y1 ?_ | refine Br.n1 ?_); conv => whnf))
     have hb2 := hbad
     unfold badLn at hb2
     simp only [Bool.or_eq_false_iff, decide_eq_false_iff_not] at hb2
     obtain ⟨h1, h2, h3⟩ := hb2
     obtain ⟨k, hk⟩ : ∃ k : Nat, x.acct = k := ⟨x.acct.toNat, by omega⟩
     have hk1 : k < 100 := by have := hm.acct; omega
     have hil := itoa_le k
     have hpr := print_le x.amt
     refine Sm.seqC (fun e' L' s' => e' = .normal ∧ s' = s ∧ Sub [(0, .slice a ls.length cp), (3, sv (if i = 0 then [] else preT ls i ++ [44])), (4, .int .i64 (i : Int)), (5, .pointer (some ⟨p5, 0, none⟩))] L') ?_ ?_
     · conv => whnf
       by_cases hi0 : i = 0
       · subst hi0
         repeat ((first | refine Br.y1 ?_ | refine Br.n1 ?_); conv => whnf)
         exact ⟨rfl, rfl, subK_ok ⟨rfl, rfl, rfl, rfl, trivial⟩⟩
       · have q1 : decide ((i : Int) > 0) = true := decide_eq_true (by omega)
         refine Br.yes q1 ?_
         conv => whnf
         refine Om.of _ (sv_add (preT ls i) [44] (by simp; omega)) ?_
         conv => whnf
         exact ⟨rfl, rfl, subK_ok ⟨rfl, congrArg (fun x => some (sv x)) (by rw [if_neg hi0]), rfl, rfl, trivial⟩⟩
     rintro e L' s' ⟨rfl, rfl, hs⟩
     refine Sm.weak _ hs ?_
     clear hs
     refine Sm.seqW ?_
     conv => whnf
     refine ⟨[0, 0, 2, 6, 15, 31, 0, 64, 206, 511, 1023], by decide +kernel, by decide +kernel, ?_⟩
     conv => whnf
     refine hp.load (v := .int .i64 x.acct) .d (by rfl) rfl rfl rfl ?_
     conv => whnf
     rw [hk]
     refine hp.rst.call (rdig2_spec hp.rst.wf hk1) ?_
     rintro _ s1 rfl h1 k1
     conv => whnf
     refine hp.dkN h1 k1 ?_
     clear hp h1 k1
     intro s hp
     conv => whnf
     refine Om.of _ (sv_add (if i = 0 then [] else preT ls i ++ [44]) (itoaF k) (by split <;> simp <;> omega)) ?_
     conv => whnf
     refine Om.of _ (sv_add ((if i = 0 then [] else preT ls i ++ [44]) ++ itoaF k) [58] (by split <;> simp <;> omega)) ?_
     conv => whnf
     refine hp.loadA (l := x.amt.cells) .d rfl (by rfl) rfl rfl ?_
     conv => whnf
     refine hp.rst.call (rprint_spec hp.rst.wf x.amt hm.amt) ?_
     rintro _ s1 rfl h1 k1
     conv => whnf
     refine hp.dkN h1 k1 ?_
     clear hp h1 k1
     intro s hp
     conv => whnf
     refine Om.of _ (sv_add ((if i = 0 then [] else preT ls i ++ [44]) ++ itoaF k ++ [58]) (printF x.amt) (by split <;> simp <;> omega)) ?_
     conv => whnf
     refine Sm.live [0, 3, 4, 5] ?_
     conv => whnf
     refine Sm.seqW ?_
     conv => whnf
     refine hp.load (v := .int .i64 x.wth) .d (by rfl) rfl rfl rfl ?_
     conv => whnf
     refine Sm.live [0, 3, 4, 5, 46] ?_
     conv => whnf
     refine Sm.mono (Q := fun e' L' s'' => e' = .normal ∧ Hp (fun _ => False) z [slA κ (.slice a ls.length cp) 6 ls.length (lnC ls)] [blkA p5 p5 x.cells 6] s'' ∧ Sub [(0, .slice a ls.length cp), (3, sv (preT ls (i + 1))), (4, .int .i64 (i : Int))] L') ?_ ?_
     · refine Sm.ofW ?_
       conv => whnf
       by_cases hw0 : 0 ≤ x.wth
       · have q1 : decide (x.wth ≥ 0) = true := decide_eq_true hw0
         obtain ⟨j, hj⟩ : ∃ j : Nat, x.wth = j := ⟨x.wth.toNat, by omega⟩
         have hj1 : j < 100 := by have := hm.wth; omega
         have hjl := itoa_le j
         repeat (first | (refine Br.yes q1 ?_; conv => whnf) | ((first | refine Br.y1 ?_ | refine Br.n1 ?_); conv => whnf))
         refine Om.of _ (sv_add ((if i = 0 then [] else preT ls i ++ [44]) ++ itoaF k ++ [58] ++ printF x.amt) [64] (by split <;> simp <;> omega)) ?_
         conv => whnf
         refine hp.load (v := .int .i64 x.wth) .d (by rfl) rfl rfl rfl ?_
         conv => whnf
         rw [hj]
         refine hp.call (rdig2_spec hp.wf hj1) ?_
         clear hp
         rintro _ s rfl hp _
         conv => whnf
         refine Om.of _ (sv_add ((if i = 0 then [] else preT ls i ++ [44]) ++ itoaF k ++ [58] ++ printF x.amt ++ [64]) (itoaF j) (by split <;> simp <;> omega)) ?_
         conv => whnf
         exact ⟨rfl, hp.pik (by repeat (first | exact Pik.nil | exact Pik.refl _ | exact Rm.here | apply Rm.there | apply Pik.cons | apply Pik.skip)), subK_ok ⟨rfl, congrArg (fun x => some (sv x)) (by rw [hsn]; unfold lineT; rw [if_pos hw0, hk, hj]; simp), rfl, trivial⟩⟩
       · have q1 : decide (x.wth ≥ 0) = false := decide_eq_false hw0
         repeat (first | (refine Br.no q1 ?_; conv => whnf) | ((first | refine Br.y1 ?_ | refine Br.n1 ?_); conv => whnf))
         exact ⟨rfl, hp.pik (by repeat (first | exact Pik.nil | exact Pik.refl _ | exact Rm.here | apply Rm.there | apply Pik.cons | apply Pik.skip)), subK_ok ⟨rfl, congrArg (fun x => some (sv x)) (by rw [hsn]; unfold lineT; rw [if_neg hw0, hk]; simp), rfl, trivial⟩⟩
     clear hp
     rintro e' L' s ⟨rfl, hp, hs⟩
     refine Sm.weak _ hs ?_
     clear hs
     refine Sm.ofW ?_
     conv => whnf
     exact ⟨i + 1, by (show ls.length - (i + 1) < ls.length - i); omega, subK_ok (by refine ⟨rfl, rfl, congrArg (fun x => some (Value.int .i64 x)) (show IntKind.i64.wrap ((i : Int) + 1) = ((i + 1 : Nat) : Int) by rw [wi64 (by omega) (by omega)]; omega), trivial⟩), by (show i + 1 ≤ ls.length); omega, by (show (ls.take (i + 1)).any badLn = false); rw [htk, List.any_append, hno]; simp [hbad], hp.pik (by repeat (first | exact Pik.nil | exact Pik.refl _ | exact Rm.here | apply Rm.there | apply Pik.cons | apply Pik.skip))⟩
 · have hc : i = ls.length := by have : ¬ (i : Int) < ((ls.length : Nat) : Int) := of_decide_eq_false hc; omega
   subst hc
   rw [List.take_length] at hno
   conv => whnf
   refine Sm.seqW ?_
   conv => whnf
   refine Sm.live [2] ?_
   conv => whnf
   refine Sm.ofW ?_
   conv => whnf
   refine ⟨hp.fr, ?_⟩
   unfold printL
   rw [if_neg (by rw [hno]; decide)]
   unfold preT
   rw [List.take_length]; rfl
theorem rturned_spec {z : St} (wf : WF z) {κ : Option Nat} {v : Value} {ls : List Ln} (hv : Sln z κ v ls) (hok : ∀ x ∈ ls, x.amt.c < w128) (hl : ls.length ≤ 1000) :
  Cw Tryz.prog 26 [v] z fun r s' => K0 z s' ∧ OwnN z.next s' r 6 (ls.map turnL).length (lnC (ls.map turnL)) := by
 obtain ⟨a, cp, rfl⟩ := hv.shape
 have hp : Hp (fun _ => False) z [slA κ (.slice a ls.length cp) 6 ls.length (lnC ls)] [] z := Hp.start _ wf _ (by simp; exact hv)
 refine Cw.enterS Tryz.func26 rfl rfl ?_
 refine Sm.seqW ?_
 conv => whnf
 refine Sm.live [0] ?_
 conv => whnf
 refine Sm.seqW ?_
 conv => whnf
 refine Sm.live [0, 3] ?_
 conv => whnf
 refine Sm.seq ?_
 refine Sm.seqW ?_
 conv => whnf
 refine Sm.live [0, 3, 4] ?_
 conv => whnf
 refine Sm.block ?_
 refine Sm.loop ?_
 refine Lp.ofS (α := Nat × Option Nat × Value) (fun x => [(0, .slice a ls.length cp), (3, x.2.2), (4, .int .i64 (x.1 : Int))])
  (fun x s' => x.1 ≤ ls.length ∧ Hp (fun _ => False) z [slA κ (.slice a ls.length cp) 6 ls.length (lnC ls)] [onA x.2.1 x.2.2 6 x.1 (lnC ((ls.take x.1).map turnL))] s') (fun x => ls.length - x.1) ?_ (0, none, .slice none 0 0) (subK_ok (by refine ⟨rfl, rfl, rfl, trivial⟩)) ⟨Nat.zero_le _, (hp.nilA 6).pik (by repeat (first | exact Pik.nil | exact Pik.refl _ | exact Rm.here | apply Rm.there | apply Pik.cons | apply Pik.skip))⟩
 clear hp
 rintro ⟨i, κo, vo⟩ s ⟨hi, hp⟩
 simp only at hi hp
 refine Sm.seq ?_
 refine Sm.seqW ?_
 conv => whnf
 refine Sm.live [0, 3, 4, 9] ?_
 conv => whnf
 refine Sm.ofW ?_
 conv => whnf
 refine Br.mk (fun hc => ?_) (fun hc => ?_)
 · have hc : i < ls.length := by have : (i : Int) < ((ls.length : Nat) : Int) := of_decide_eq_true hc; omega
   obtain ⟨e, g1, g2⟩ := index_ln (hp.slR (κ := κ) (v := .slice a ls.length cp) .here) .i64 hc
   have htk : ls.take (i + 1) = ls.take i ++ [ls[i]] := List.take_succ_eq_append_getElem hc
   have hmem : ls[i] ∈ ls := List.getElem_mem hc
   have hm := hok _ hmem
   generalize hw : ls[i] = x at *
   conv => whnf
   refine Sm.seq ?_
   refine Sm.block ?_
   refine Sm.seqW ?_
   conv => whnf
   refine Om.of _ (g1) ?_
   conv => whnf
   refine Om.of _ (g2) ?_
   conv => whnf
   refine hp.alloc (cs := Ln.zero.cells) (e := 6) rfl rfl rfl rfl rfl ?_
   clear hp
   intro p5 s hp _
   conv => whnf
   refine hp.storeW (vs := x.cells) rfl .d csx rfl rfl rfl ?_
   clear hp
   intro s hp _
   conv => whnf
   refine Sm.live [0, 3, 4, 5] ?_
   conv => whnf
   refine Sm.seqW ?_
   conv => whnf
   refine hp.loadA (l := x.amt.cells) .d rfl (by rfl) rfl rfl ?_
   conv => whnf
   refine hp.call (rneg_spec hp.wf x.amt hm) ?_
   clear hp
   rintro _ s rfl hp _
   conv => whnf
   refine hp.storeA (off := 1) (vs := (negF x.amt).cells) rfl .d (by show 1 + 4 ≤ 6; decide) rfl rfl rfl ?_
   clear hp
   intro s hp _
   replace hp : Hp (fun _ => False) z [slA κ (.slice a ls.length cp) 6 ls.length (lnC ls)] [blkA p5 p5 (turnL x).cells 6, onA κo vo 6 i (lnC ((ls.take i).map turnL))] s := hp
   conv => whnf
   refine Sm.live [0, 3, 4, 5] ?_
   conv => whnf
   refine Sm.ofW ?_
   conv => whnf
   refine hp.loadA (l := (turnL x).cells) .d rfl (by rfl) rfl rfl ?_
   conv => whnf
   refine hp.lit (cs := (turnL x).cells) (e := 6) (by rfl) ?_
   clear hp
   intro b4 s4 hp _
   conv => whnf
   have x4 := hp.blkSl (n := 1) (C := (turnL x).cells) (k := b4) (b := b4) (e := 6) .d rfl
   refine hp.app LT Tryz.underlying24 rfl (κ := κo) (v := vo) .d (elems_sl x4) rfl rfl (by omega) ?_
   clear hp x4
   intro v5 κ5 s hp
   have e1 : lnC ((ls.take i).map turnL) ++ (turnL x).cells = lnC ((ls.take (i + 1)).map turnL) := by
    rw [htk, List.map_append, lnC_app]; simp [lnC]
   rw [e1] at hp
   conv => whnf
   refine Sm.ofW ?_
   conv => whnf
   exact ⟨(i + 1, κ5, v5), by (show ls.length - (i + 1) < ls.length - i); omega, subK_ok (by refine ⟨rfl, rfl, congrArg (fun x => some (Value.int .i64 x)) (show IntKind.i64.wrap ((i : Int) + 1) = ((i + 1 : Nat) : Int) by rw [wi64 (by omega) (by omega)]; omega), trivial⟩), by (show i + 1 ≤ ls.length); omega, hp.pik (by repeat (first | exact Pik.nil | exact Pik.refl _ | exact Rm.here | apply Rm.there | apply Pik.cons | apply Pik.skip))⟩
 · have hc : i = ls.length := by have : ¬ (i : Int) < ((ls.length : Nat) : Int) := of_decide_eq_false hc; omega
   subst hc
   rw [List.take_length] at hp
   conv => whnf
   refine Sm.seqW ?_
   conv => whnf
   refine Sm.live [2] ?_
   conv => whnf
   refine Sm.ofW ?_
   conv => whnf
   refine ⟨hp.fr, ?_⟩
   have := hp.out .d
   rw [List.length_map]
   exact this
end

/- The document's law of lines, walked. No condition. -/
section
variable [Lk]
theorem rkind_spec (s : St) (a : Int) : Cw Tryz.prog 64 [.int .i64 a] s fun r s' => s' = s ∧ r = .int .i64 (kindF a) := by
 refine Cw.enterS Tryz.func64 rfl rfl ?_
 refine Sm.seqW ?_
 conv => whnf
 refine Sm.live [0] ?_
 conv => whnf
 refine Sm.ofW ?_
 conv => whnf
 repeat' (first | (refine Br.yes (by first | with_reducible rfl | with_reducible assumption) ?_; conv => whnf) | (refine Br.no (by first | with_reducible rfl | with_reducible assumption) ?_; conv => whnf) | (refine Br.mk (fun hq => ?_) (fun hq => ?_) <;> conv => whnf))
 all_goals refine ⟨rfl, congrArg (Value.int .i64) ?_⟩
 all_goals unfold kindF
 all_goals simp only [decide_eq_true_eq, decide_eq_false_iff_not] at *
 all_goals (first | (rw [if_pos (by omega)]) | (rw [if_neg (by omega)]; first | (rw [if_pos (by omega)]) | (rw [if_neg (by omega)]; first | (rw [if_pos (by omega)]) | (rw [if_neg (by omega)]; first | (rw [if_pos (by omega)]) | (rw [if_neg (by omega)])))))
theorem rightLn_doc (x : Ln) (sc : Int) : rightLn x sc = !(kindF x.acct == 0 || (!x.amt.right || (!(x.amt.scale == sc) || (signF x.amt == 0 || (decide (x.wth < -1) || (decide (x.wth ≥ 8) || ((x.wth == -1) == isWithF x.acct))))))) := by
 have e1 : (kindF x.acct == 0) = !decide (0 ≤ x.acct ∧ x.acct < 16) := by
  have := kindF_0 (a := x.acct)
  by_cases h : 0 ≤ x.acct ∧ x.acct < 16
  · rw [decide_eq_true h]; exact beq_eq_false_iff_ne.2 fun g => this.1 g h
  · rw [decide_eq_false h]; exact beq_iff_eq.2 (this.2 h)
 unfold rightLn
 rw [e1]
 cases hs : signF x.amt == 0 with
 | true => simp
 | false =>
   have hr := (sign_rt (d := x.amt) (by simpa using hs)).1
   rw [hr]
   have key : (if isWithF x.acct = true then decide (0 ≤ x.wth ∧ x.wth < 8) else x.wth == -1) = !(decide (x.wth < -1) || (decide (x.wth ≥ 8) || ((x.wth == -1) == isWithF x.acct))) := by
    cases isWithF x.acct with
    | true => rw [if_pos rfl, Bool.eq_iff_iff]; simp; omega
    | false => rw [if_neg (by decide), Bool.eq_iff_iff]; simp; omega
   rw [key]
   generalize (decide (x.wth < -1) || (decide (x.wth ≥ 8) || ((x.wth == -1) == isWithF x.acct))) = c
   cases x.amt.scale == sc <;> cases decide (0 ≤ x.acct ∧ x.acct < 16) <;> cases c <;> rfl
def sumR : List Ln → Int
 | [] => 1
 | x :: r => tailE (sumL x.amt r)
theorem rightR_sum (ls : List Ln) (sc : Int) : rightR ls sc = if ls = [] ∨ 8 < ls.length then 1 else if (ls.all fun x => rightLn x sc) = false then 1 else sumR ls := by
 unfold rightR
 cases ls <;> rfl
theorem index_amt {s : St} {κ : Option Nat} {v : Value} {l : List Ln} (h : Sln s κ v l) (k : IntKind) {i : Nat} (hi : i < l.length) :
  ∃ b off, evIndexAddr Tryz.prog 24 v (.int k (i : Int)) = some (.pointer (some ⟨b, off, none⟩)) ∧ evLoad Tryz.prog 29 (.pointer (some ⟨b, off + 1, none⟩)) s = some l[i].amt.val := by
 obtain ⟨j, hi1, hi2, hi3, hi4⟩ := LT.hi
 rcases h.ex with ⟨rfl, h0, _, _⟩ | ⟨b, off, c, C, rfl, hc, hl, hs, hm⟩
 · omega
 · have hr : s.rd b = some C := by
    rcases hm with ⟨k, _, hm⟩ | ⟨_, hm⟩
    · exact hm.rd
    · exact hm.rd
   refine ⟨b, off + i * 6, ?_, ?_⟩
   · show (match Tryz.prog.underlying 24, Value.slice (some ⟨b, off, none⟩) l.length c, Value.int k (.ofNat i) with
      | some (.slice e), .slice (some a) n _, .int _ (.ofNat i) => match Nat.blt i n, Tryz.prog.info? e with
        | true, some j => some (Value.pointer (some ⟨a.block, a.off + i * j.size, none⟩))
        | _, _ => none
      | some (.array n e), .pointer (some a), .int _ (.ofNat i) => match Nat.blt i n, Tryz.prog.info? e with
        | true, some j => some (Value.pointer (some ⟨a.block, a.off + i * j.size, none⟩))
        | _, _ => none
      | _, _, _ => none) = _
     rw [LT.hu]
     simp only [blt_of hi, hi1, hi2]
   · have hc : ((lnC l).drop (i * 6 + 1)).take 4 = l[i].amt.cells := by
      have := lnC_at hi
      rw [← List.drop_drop]
      have e : (List.drop 1 (List.drop (i * 6) (lnC l))).take 4 = (List.drop 1 ((List.drop (i * 6) (lnC l)).take 6)).take 4 := by
       rw [List.drop_take, List.take_take]; rfl
      rw [e, this]; rfl
     have := load_agg (P := Tryz.prog) (t := 29) (off := off + i * 6 + 1) Tryz.underlying29 (by rfl) hr (sl_sub (i := i * 6 + 1) (m := 4) hs (by omega))
     rw [hc] at this
     exact this
theorem rrightLines_spec {z : St} (wf : WF z) {κ : Option Nat} {v : Value} {ls : List Ln} (hv : Sln z κ v ls) (hok : ∀ x ∈ ls, x.amt.c < w128) (hl : ls.length ≤ 1000) (sc : Int) :
  Cw Tryz.prog 24 [v, .int .i64 sc] z fun r s' => K0 z s' ∧ r = .int .i64 (rightLF ls sc) := by
 rw [right_same, rightR_sum]
 obtain ⟨a, cp, rfl⟩ := hv.shape
 have hp : Hp (fun _ => False) z [slA κ (.slice a ls.length cp) 6 ls.length (lnC ls)] [] z := Hp.start _ wf _ (by simp; exact hv)
 refine Cw.enterS Tryz.func24 rfl rfl ?_
 refine Sm.seqW ?_
 conv => whnf
 refine Sm.live [0, 1] ?_
 conv => whnf
 refine Sm.seq ?_
 refine Sm.seqC (fun e' L' s' => e' = .normal ∧ s' = z ∧ Sub [(0, .slice a ls.length cp), (1, .int .i64 sc), (18, .bool (decide (ls = [] ∨ 8 < ls.length)))] L') ?_ ?_
 · conv => whnf
   by_cases h0 : ls = []
   · have q1 : decide (((ls.length : Nat) : Int) < 1) = true := by rw [h0]; rfl
     repeat (first | (refine Br.yes q1 ?_; conv => whnf) | ((first | refine Br.y1 ?_ | refine Br.n1 ?_); conv => whnf))
     exact ⟨rfl, rfl, subK_ok ⟨rfl, rfl, congrArg (fun x => some (Value.bool x)) (decide_eq_true (.inl h0)).symm, trivial⟩⟩
   · have q1 : decide (((ls.length : Nat) : Int) < 1) = false := decide_eq_false (by have := List.length_pos_iff.2 h0; omega)
     repeat (first | (refine Br.no q1 ?_; conv => whnf) | ((first | refine Br.y1 ?_ | refine Br.n1 ?_); conv => whnf))
     exact ⟨rfl, rfl, subK_ok ⟨rfl, rfl, congrArg (fun x => some (Value.bool x)) (decide_eq_decide.2 ⟨fun h => .inr (by omega), fun h => by rcases h with h | h; exact absurd h h0; omega⟩), trivial⟩⟩
 rintro e' L' s' ⟨rfl, h1, hs⟩
 obtain rfl := h1.symm
 refine Sm.weak _ hs ?_
 clear hs
 refine Sm.ofW ?_
 conv => whnf
 by_cases h0 : ls = [] ∨ 8 < ls.length
 · rw [if_pos h0]
   refine Br.yes (decide_eq_true h0) ?_
   conv => whnf
   exact ⟨hp.fr, rfl⟩
 rw [if_neg h0]
 refine Br.no (decide_eq_false h0) ?_
 conv => whnf
 refine Sm.seq ?_
 refine Sm.seqW ?_
 conv => whnf
 refine Sm.live [0, 1, 5] ?_
 conv => whnf
 refine Sm.block ?_
 refine Sm.loop ?_
 refine Lp.ofS (α := Nat) (fun i => [(0, .slice a ls.length cp), (1, .int .i64 sc), (5, .int .i64 (i : Int))])
  (fun i s' => i ≤ ls.length ∧ ((ls.take i).all fun x => rightLn x sc) = true ∧ Hp (fun _ => False) z [slA κ (.slice a ls.length cp) 6 ls.length (lnC ls)] [] s') (fun i => ls.length - i) ?_ 0 (subK_ok (by refine ⟨rfl, rfl, rfl, trivial⟩)) ⟨Nat.zero_le _, rfl, hp⟩
 clear hp
 rintro i s ⟨hi, hall, hp⟩
 refine Sm.seq ?_
 refine Sm.seqW ?_
 conv => whnf
 refine Sm.live [0, 1, 5, 22] ?_
 conv => whnf
 refine Sm.ofW ?_
 conv => whnf
 refine Br.mk (fun hc => ?_) (fun hc => ?_)
 · have hc : i < ls.length := by have : (i : Int) < ((ls.length : Nat) : Int) := of_decide_eq_true hc; omega
   obtain ⟨e, g1, g2⟩ := index_ln (hp.slR (κ := κ) (v := .slice a ls.length cp) .here) .i64 hc
   have htk : ls.take (i + 1) = ls.take i ++ [ls[i]] := List.take_succ_eq_append_getElem hc
   have hmem : ls[i] ∈ ls := List.getElem_mem hc
   have hm := hok _ hmem
   generalize hw : ls[i] = x at *
   conv => whnf
   refine Sm.seq ?_
   refine Sm.block ?_
   refine Sm.seqW ?_
   conv => whnf
   refine Om.of _ (g1) ?_
   conv => whnf
   refine Om.of _ (g2) ?_
   conv => whnf
   refine hp.alloc (cs := Ln.zero.cells) (e := 6) rfl rfl rfl rfl rfl ?_
   clear hp
   intro p6 s hp _
   conv => whnf
   refine hp.storeW (vs := x.cells) rfl .d csx rfl rfl rfl ?_
   clear hp
   intro s hp _
   conv => whnf
   refine Sm.live [0, 1, 5, 6] ?_
   conv => whnf
   refine Sm.seqC (fun e' L' s' => e' = .normal ∧ Hp (fun _ => False) z [slA κ (.slice a ls.length cp) 6 ls.length (lnC ls)] [blkA p6 p6 x.cells 6] s' ∧ Sub [(0, .slice a ls.length cp), (1, .int .i64 sc), (5, .int .i64 (i : Int)), (70, .bool (!rightLn x sc))] L') ?_ ?_
   · conv => whnf
     refine ⟨[0, 1, 3, 7, 15, 31, 63, 127, 255, 511, 1023, 2047, 4095, 8191, 2047, 32767, 65535, 131071, 262143, 524287, 1048575, 2097151, 4194303, 8388607, 16777215, 33554431, 67108863, 134217727, 268435455, 536870911, 1073741823, 2147483647, 4294967295, 8589934591, 17179869183, 34359738367, 68719476735, 17179869183, 154618822655, 429496729599, 1099511627775, 2199023255551], by decide +kernel, by decide +kernel, ?_⟩
     conv => whnf
     rw [rightLn_doc, Bool.not_not]
     refine hp.load (v := .int .i64 x.acct) .d (by rfl) rfl rfl rfl ?_
     conv => whnf
     refine (rkind_spec _ x.acct).mono ?_
     rintro _ s1 ⟨h1, rfl⟩
     obtain rfl := h1.symm
     conv => whnf
     refine hp.dkS ?_
     conv => whnf
     cases q1 : kindF x.acct == 0 with
     | true =>
       repeat (first | (refine Br.yes q1 ?_; conv => whnf) | ((first | refine Br.y1 ?_ | refine Br.n1 ?_); conv => whnf))
       exact ⟨rfl, hp, subK_ok ⟨rfl, rfl, rfl, rfl, trivial⟩⟩
     | false =>
     repeat (first | (refine Br.no q1 ?_; conv => whnf) | ((first | refine Br.y1 ?_ | refine Br.n1 ?_); conv => whnf))
     refine hp.loadA (l := x.amt.cells) .d rfl (by rfl) rfl rfl ?_
     conv => whnf
     repeat (first | (refine Br.no q1 ?_; conv => whnf) | ((first | refine Br.y1 ?_ | refine Br.n1 ?_); conv => whnf))
     refine hp.rst.call (rightDec_spec hp.rst.wf x.amt hm) ?_
     rintro _ s1 rfl h1 k1
     conv => whnf
     refine hp.dkN h1 k1 ?_
     clear hp h1 k1
     intro s hp
     conv => whnf
     cases q2 : x.amt.right with
     | false =>
       repeat (first | (refine Br.no q1 ?_; conv => whnf) | ((first | refine Br.y1 ?_ | refine Br.n1 ?_); conv => whnf))
       exact ⟨rfl, hp, subK_ok ⟨rfl, rfl, rfl, rfl, trivial⟩⟩
     | true =>
     repeat (first | (refine Br.no q1 ?_; conv => whnf) | ((first | refine Br.y1 ?_ | refine Br.n1 ?_); conv => whnf))
     refine hp.load (v := .int .i64 x.amt.scale) .d (by rfl) rfl rfl rfl ?_
     conv => whnf
     cases q3 : x.amt.scale == sc with
     | false =>
       have q3' : (!(x.amt.scale == sc)) = true := by rw [q3]; rfl
       repeat (first | (refine Br.no q1 ?_; conv => whnf) | (refine Br.yes q3' ?_; conv => whnf) | ((first | refine Br.y1 ?_ | refine Br.n1 ?_); conv => whnf))
       exact ⟨rfl, hp, subK_ok ⟨rfl, rfl, rfl, rfl, trivial⟩⟩
     | true =>
     have q3' : (!(x.amt.scale == sc)) = false := by rw [q3]; rfl
     repeat (first | (refine Br.no q1 ?_; conv => whnf) | (refine Br.no q3' ?_; conv => whnf) | ((first | refine Br.y1 ?_ | refine Br.n1 ?_); conv => whnf))
     refine hp.loadA (l := x.amt.cells) .d rfl (by rfl) rfl rfl ?_
     conv => whnf
     repeat (first | (refine Br.no q1 ?_; conv => whnf) | (refine Br.no q3' ?_; conv => whnf) | ((first | refine Br.y1 ?_ | refine Br.n1 ?_); conv => whnf))
     refine hp.rst.call (rsign_spec hp.rst.wf x.amt hm) ?_
     rintro _ s1 rfl h1 k1
     conv => whnf
     refine hp.dkN h1 k1 ?_
     clear hp h1 k1
     intro s hp
     conv => whnf
     cases q4 : signF x.amt == 0 with
     | true =>
       repeat (first | (refine Br.no q1 ?_; conv => whnf) | (refine Br.no q3' ?_; conv => whnf) | (refine Br.yes q4 ?_; conv => whnf) | ((first | refine Br.y1 ?_ | refine Br.n1 ?_); conv => whnf))
       exact ⟨rfl, hp, subK_ok ⟨rfl, rfl, rfl, rfl, trivial⟩⟩
     | false =>
     repeat (first | (refine Br.no q1 ?_; conv => whnf) | (refine Br.no q3' ?_; conv => whnf) | (refine Br.no q4 ?_; conv => whnf) | ((first | refine Br.y1 ?_ | refine Br.n1 ?_); conv => whnf))
     refine hp.load (v := .int .i64 x.wth) .d (by rfl) rfl rfl rfl ?_
     conv => whnf
     cases q5 : decide (x.wth < -1) with
     | true =>
       repeat (first | (refine Br.no q1 ?_; conv => whnf) | (refine Br.no q3' ?_; conv => whnf) | (refine Br.no q4 ?_; conv => whnf) | (refine Br.yes q5 ?_; conv => whnf) | ((first | refine Br.y1 ?_ | refine Br.n1 ?_); conv => whnf))
       exact ⟨rfl, hp, subK_ok ⟨rfl, rfl, rfl, rfl, trivial⟩⟩
     | false =>
     repeat (first | (refine Br.no q1 ?_; conv => whnf) | (refine Br.no q3' ?_; conv => whnf) | (refine Br.no q4 ?_; conv => whnf) | (refine Br.no q5 ?_; conv => whnf) | ((first | refine Br.y1 ?_ | refine Br.n1 ?_); conv => whnf))
     refine hp.load (v := .int .i64 x.wth) .d (by rfl) rfl rfl rfl ?_
     conv => whnf
     cases q6 : decide (x.wth ≥ 8) with
     | true =>
       repeat (first | (refine Br.no q1 ?_; conv => whnf) | (refine Br.no q3' ?_; conv => whnf) | (refine Br.no q4 ?_; conv => whnf) | (refine Br.no q5 ?_; conv => whnf) | (refine Br.yes q6 ?_; conv => whnf) | ((first | refine Br.y1 ?_ | refine Br.n1 ?_); conv => whnf))
       exact ⟨rfl, hp, subK_ok ⟨rfl, rfl, rfl, rfl, trivial⟩⟩
     | false =>
     repeat (first | (refine Br.no q1 ?_; conv => whnf) | (refine Br.no q3' ?_; conv => whnf) | (refine Br.no q4 ?_; conv => whnf) | (refine Br.no q5 ?_; conv => whnf) | (refine Br.no q6 ?_; conv => whnf) | ((first | refine Br.y1 ?_ | refine Br.n1 ?_); conv => whnf))
     refine hp.load (v := .int .i64 x.wth) .d (by rfl) rfl rfl rfl ?_
     conv => whnf
     repeat (first | (refine Br.no q1 ?_; conv => whnf) | (refine Br.no q3' ?_; conv => whnf) | (refine Br.no q4 ?_; conv => whnf) | (refine Br.no q5 ?_; conv => whnf) | (refine Br.no q6 ?_; conv => whnf) | ((first | refine Br.y1 ?_ | refine Br.n1 ?_); conv => whnf))
     refine hp.load (v := .int .i64 x.acct) .d (by rfl) rfl rfl rfl ?_
     conv => whnf
     repeat (first | (refine Br.no q1 ?_; conv => whnf) | (refine Br.no q3' ?_; conv => whnf) | (refine Br.no q4 ?_; conv => whnf) | (refine Br.no q5 ?_; conv => whnf) | (refine Br.no q6 ?_; conv => whnf) | ((first | refine Br.y1 ?_ | refine Br.n1 ?_); conv => whnf))
     refine (risWith_spec _ x.acct).mono ?_
     rintro _ s1 ⟨h1, rfl⟩
     obtain rfl := h1.symm
     conv => whnf
     refine hp.dkS ?_
     conv => whnf
     repeat (first | (refine Br.no q1 ?_; conv => whnf) | (refine Br.no q3' ?_; conv => whnf) | (refine Br.no q4 ?_; conv => whnf) | (refine Br.no q5 ?_; conv => whnf) | (refine Br.no q6 ?_; conv => whnf) | ((first | refine Br.y1 ?_ | refine Br.n1 ?_); conv => whnf))
     refine Om.of (.bool ((x.wth == -1) == isWithF x.acct)) (by cases x.wth == -1 <;> cases isWithF x.acct <;> rfl) ?_
     conv => whnf
     repeat (first | (refine Br.no q1 ?_; conv => whnf) | (refine Br.no q3' ?_; conv => whnf) | (refine Br.no q4 ?_; conv => whnf) | (refine Br.no q5 ?_; conv => whnf) | (refine Br.no q6 ?_; conv => whnf) | ((first | refine Br.y1 ?_ | refine Br.n1 ?_); conv => whnf))
     exact ⟨rfl, hp, subK_ok ⟨rfl, rfl, rfl, rfl, trivial⟩⟩
   clear hp
   rintro e' L' s ⟨rfl, hp, hs⟩
   refine Sm.weak _ hs ?_
   clear hs
   refine Sm.ofW ?_
   conv => whnf
   cases hr : rightLn x sc with
   | true =>
     repeat ((first | refine Br.y1 ?_ | refine Br.n1 ?_); conv => whnf)
     refine Sm.ofW ?_
     conv => whnf
     exact ⟨i + 1, by (show ls.length - (i + 1) < ls.length - i); omega, subK_ok (by refine ⟨rfl, rfl, congrArg (fun x => some (Value.int .i64 x)) (show IntKind.i64.wrap ((i : Int) + 1) = ((i + 1 : Nat) : Int) by rw [wi64 (by omega) (by omega)]; omega), trivial⟩), by omega, by rw [htk, List.all_append, hall]; simp [hr], hp.pik (by repeat (first | exact Pik.nil | exact Pik.refl _ | exact Rm.here | apply Rm.there | apply Pik.cons | apply Pik.skip))⟩
   | false =>
     repeat ((first | refine Br.y1 ?_ | refine Br.n1 ?_); conv => whnf)
     have : (ls.all fun x => rightLn x sc) = false := by
      cases hq : (ls.all fun x => rightLn x sc) with
      | false => rfl
      | true => rw [List.all_eq_true] at hq; rw [hq x hmem] at hr; cases hr
     exact ⟨hp.fr, by rw [if_pos this]; rfl⟩
 · have hc : i = ls.length := by have : ¬ (i : Int) < ((ls.length : Nat) : Int) := of_decide_eq_false hc; omega
   subst hc
   rw [List.take_length] at hall
   rw [if_neg (by rw [hall]; decide)]
   have h00 : ls ≠ [] := fun h => h0 (.inl h)
   obtain ⟨x0, r0, hls⟩ := List.exists_cons_of_ne_nil h00
   have hm0 := hok x0 (by rw [hls]; simp)
   have hfin : sumR ls = tailE (sumL x0.amt r0) := by rw [hls]; rfl
   rw [hfin]
   clear hfin
   have hlen : ls.length = r0.length + 1 := by rw [hls]; rfl
   obtain ⟨eb, eo, g1, g2⟩ := index_amt (hp.slR (κ := κ) (v := .slice a ls.length cp) .here) .i64 (i := 0) (by omega)
   have h00 : ls[0]'(by omega) = x0 := by simp [hls]
   rw [h00] at g2
   conv => whnf
   refine Sm.seqW ?_
   conv => whnf
   refine Om.of _ (g1) ?_
   conv => whnf
   refine Om.of _ (g2) ?_
   conv => whnf
   refine hp.alloc (cs := Dc.zero.cells) (e := 4) rfl rfl rfl rfl rfl ?_
   clear hp
   intro p7 s hp _
   conv => whnf
   refine hp.storeW (vs := x0.amt.cells) rfl .d csx rfl rfl rfl ?_
   clear hp
   intro s hp _
   conv => whnf
   refine Sm.live [0, 7] ?_
   conv => whnf
   refine Sm.seq ?_
   refine Sm.seqW ?_
   conv => whnf
   refine Sm.live [0, 7, 8] ?_
   conv => whnf
   refine Sm.block ?_
   refine Sm.loop ?_
   refine Lp.ofS (α := Nat × Dc) (fun x => [(0, .slice a ls.length cp), (7, .pointer (some ⟨p7, 0, none⟩)), (8, .int .i64 ((x.1 + 1 : Nat) : Int))])
    (fun x s' => x.1 ≤ r0.length ∧ sumL x0.amt (r0.take x.1) = (x.2, 0) ∧ x.2.c < w128 ∧ Hp (fun _ => False) z [slA κ (.slice a ls.length cp) 6 ls.length (lnC ls)] [blkA p7 p7 x.2.cells 4] s') (fun x => r0.length - x.1) ?_ (0, x0.amt) (subK_ok (by refine ⟨rfl, rfl, rfl, trivial⟩)) ⟨Nat.zero_le _, rfl, hm0, hp.pik (by repeat (first | exact Pik.nil | exact Pik.refl _ | exact Rm.here | apply Rm.there | apply Pik.cons | apply Pik.skip))⟩
   clear hp
   rintro ⟨i, d⟩ s ⟨hi, hsm, hd, hp⟩
   simp only at hi hsm hd hp
   refine Sm.seq ?_
   refine Sm.seqW ?_
   conv => whnf
   refine Sm.live [0, 7, 8, 78] ?_
   conv => whnf
   refine Sm.ofW ?_
   conv => whnf
   refine Br.mk (fun hc => ?_) (fun hc => ?_)
   · have hc : i < r0.length := by have : ((i + 1 : Nat) : Int) < ((ls.length : Nat) : Int) := of_decide_eq_true hc; omega
     obtain ⟨eb, eo, g1, g2⟩ := index_amt (hp.slR (κ := κ) (v := .slice a ls.length cp) .here) .i64 (i := i + 1) (by omega)
     have hat : ls[i + 1]'(by omega) = r0[i] := by simp [hls]
     rw [hat] at g2
     have htk : r0.take (i + 1) = r0.take i ++ [r0[i]] := List.take_succ_eq_append_getElem hc
     have hdr : r0 = r0.take (i + 1) ++ r0.drop (i + 1) := (List.take_append_drop _ _).symm
     have hmem : r0[i] ∈ ls := by rw [hls]; exact List.mem_cons_of_mem _ (List.getElem_mem hc)
     have hm := hok _ hmem
     generalize hw : r0[i] = x at *
     have hs1 : sumL x0.amt (r0.take (i + 1)) = addD d x.amt := by rw [htk, sumL_app, hsm, if_neg (by simp), sumL_one]
     have hac := addD_c d x.amt
     conv => whnf
     refine Sm.seq ?_
     refine Sm.block ?_
     refine Sm.seqW ?_
     conv => whnf
     refine ⟨[0, 0, 0, 6, 14, 30, 63, 127, 255, 255, 0, 1535, 4095], by decide +kernel, by decide +kernel, ?_⟩
     conv => whnf
     refine hp.loadA (l := d.cells) .d rfl (by rfl) rfl rfl ?_
     conv => whnf
     refine Om.of _ (g1) ?_
     conv => whnf
     refine Om.of _ (g2) ?_
     conv => whnf
     refine hp.rst.call (radd_spec hp.rst.wf d x.amt hd hm) ?_
     rintro _ s1 rfl h1 k1
     conv => whnf
     refine hp.dkN h1 k1 ?_
     clear hp h1 k1
     intro s hp
     conv => whnf
     rw [addF_D]
     generalize hA : addD d x.amt = A at *
     conv => whnf
     refine hp.rst.alloc (cs := Dc.zero.cells) (e := 4) rfl rfl rfl rfl rfl ?_
     intro p9 s1 h1 k1
     conv => whnf
     refine hp.dkN h1 k1 ?_
     clear hp h1 k1
     intro s hp
     conv => whnf
     refine hp.rst.storeW (vs := A.1.cells) rfl .d csx rfl rfl rfl ?_
     intro s1 h1 l1
     conv => whnf
     refine hp.dkW h1 l1 ?_
     clear hp h1 l1
     intro s hp
     conv => whnf
     refine Sm.live [0, 7, 8, 9, 10] ?_
     conv => whnf
     refine Sm.seq ?_
     refine Sm.seqW ?_
     conv => whnf
     refine Sm.live [0, 7, 8, 9, 10, 92] ?_
     conv => whnf
     refine Sm.ofW ?_
     conv => whnf
     cases he : A.2 == 0 with
     | true =>
       have he2 : A.2 = 0 := beq_iff_eq.1 he
       refine Br.no (by show (!(A.2 == 0)) = false; rw [he]; rfl) ?_
       conv => whnf
       refine Sm.ofW ?_
       conv => whnf
       refine hp.loadA (l := A.1.cells) .d rfl (by rfl) rfl rfl ?_
       conv => whnf
       refine hp.storeW (vs := A.1.cells) rfl .d csx rfl rfl rfl ?_
       clear hp
       intro s hp _
       conv => whnf
       refine Sm.ofW ?_
       conv => whnf
       exact ⟨(i + 1, A.1), by (show r0.length - (i + 1) < r0.length - i); omega, subK_ok (by refine ⟨rfl, rfl, congrArg (fun x => some (Value.int .i64 x)) (show IntKind.i64.wrap (((i + 1 : Nat) : Int) + 1) = ((i + 1 + 1 : Nat) : Int) by rw [wi64 (by omega) (by omega)]; omega), trivial⟩), by (show i + 1 ≤ r0.length); omega, by (show sumL x0.amt (r0.take (i + 1)) = (A.1, 0)); rw [hs1, ← he2], hac, hp.pik (by repeat (first | exact Pik.nil | exact Pik.refl _ | exact Rm.here | apply Rm.there | apply Pik.cons | apply Pik.skip))⟩
     | false =>
       have he2 : A.2 ≠ 0 := beq_eq_false_iff_ne.1 he
       refine Br.yes (by show (!(A.2 == 0)) = true; rw [he]; rfl) ?_
       conv => whnf
       refine ⟨hp.fr, ?_⟩
       have : sumL x0.amt r0 = A := by
        rw [hdr, sumL_app, hs1, if_pos he2]
       rw [this]
       unfold tailE
       rw [if_pos he2]; rfl
   · have hc : i = r0.length := by have : ¬ ((i + 1 : Nat) : Int) < ((ls.length : Nat) : Int) := of_decide_eq_false hc; omega
     subst hc
     rw [List.take_length] at hsm
     rw [hsm]
     unfold tailE
     rw [if_neg (by simp)]
     conv => whnf
     refine Sm.seq ?_
     refine Sm.seqW ?_
     conv => whnf
     refine hp.loadA (l := d.cells) .d rfl (by rfl) rfl rfl ?_
     conv => whnf
     refine hp.call (rsign_spec hp.wf d hd) ?_
     clear hp
     rintro _ s rfl hp _
     conv => whnf
     refine Sm.ofW ?_
     conv => whnf
     cases he : signF d == 0 with
     | true =>
       refine Br.no (by show (!(signF d == 0)) = false; rw [he]; rfl) ?_
       conv => whnf
       refine Sm.seqW ?_
       conv => whnf
       refine Sm.ofW ?_
       conv => whnf
       refine ⟨hp.fr, ?_⟩
       rw [if_neg (by simpa using he)]; rfl
     | false =>
       refine Br.yes (by show (!(signF d == 0)) = true; rw [he]; rfl) ?_
       conv => whnf
       refine ⟨hp.fr, ?_⟩
       rw [if_pos (by simpa using he)]; rfl
end

/- EntryTells walked. No condition. -/
section
variable [Lk]
theorem remI {P : Program} {t : TypeId} {cst : Bool} {a m : Int} (hm : 0 < m) : evBin P .rem t cst (.int .i64 a) (.int .i64 m) = some (.int .i64 (a.tmod m)) := by
 show (match decide (m = 0) with
  | true => none
  | false => some (Value.int .i64 (a.tmod m))) = _
 rw [decide_eq_false (by omega)]
theorem Hp.slX {X : Nat → Prop} {s0 s : St} {R F G : List At} {κ : Option Nat} {v : Value} {e n : Nat} {cs : List Value} (h : Hp X s0 R F s) (m : Rm (slA κ v e n cs) F G) : Sl s κ v e n cs := h.okF _ m.sub.1
theorem mod7 (x : Int) : 0 ≤ x % 7 ∧ x % 7 < 7 := ⟨Int.emod_nonneg _ (by decide), Int.emod_lt_of_pos _ (by decide)⟩
theorem Om.ofE {o : Option Value} {K : Value → Prop} (p : List UInt8 → Prop) (h : ∃ W, o = some (sv W) ∧ p W) (k : ∀ W, p W → K (sv W)) : Om o K := by
 obtain ⟨W, h1, h2⟩ := h
 exact .of _ h1 (k W h2)
theorem entryTells_walk {s0 : St} (wf : WF s0) (hg : Gs s0) {v : Value} {z : List Int} (hv : Sl s0 none v 1 z.length (z.map (Value.int .i64))) (hl : z.length ≤ 1048576) (hz : ∀ n ∈ z, inR n) {scale bend : Int} (hs : inR scale) (hb : inR bend) {raw : ByteArray} (hraw : (bs raw).length ≤ 1048576) {how : Int} (hh : inR how) :
  Cw Tryz.prog 6 [v, .int .i64 scale, .int .i64 bend, .string raw, .int .i64 how] s0 fun r _ => r = .bool true := by
 rw [sv_bs raw]
 generalize bs raw = raw at *
 have hp : Hp (fun _ => False) s0 [slA none v 1 z.length (z.map (Value.int .i64))] [] s0 := Hp.start _ wf _ (by simp; exact hv)
 refine Cw.enterS Tryz.func6 rfl rfl ?_
 refine Sm.seqW ?_
 conv => whnf
 refine Sm.live [0, 1, 2, 3, 4] ?_
 conv => whnf
 refine Sm.seqW ?_
 conv => whnf
 refine (pick_spec _ hs (m := 5) (by decide) (by decide)).mono ?_
 rintro _ s1 ⟨h1, rfl⟩
 obtain rfl := h1.symm
 conv => whnf
 obtain ⟨sc1, sc2⟩ := mod5 scale
 generalize scale % 5 = sc at *
 refine Sm.live [0, 1, 2, 3, 4] ?_
 conv => whnf
 refine Sm.seqW ?_
 conv => whnf
 refine hp.call (hlines_spec hp.wf hv (by omega) hz sc1 (by omega) hb (ents := 4) (by decide) (by decide)) ?_
 intro v11 s hr h1 k1
 obtain ⟨ls, κ, g1, g2, g3, g4, hmL, -⟩ := hr.ex
 replace hp := hp.push (a := slA κ v11 6 ls.length (lnC ls)) k1 g1 (fun j hj => g2 j hj)
 clear hr h1 k1 g1 g2
 conv => whnf
 refine Sm.live [1, 2, 3, 4, 11] ?_
 conv => whnf
 refine Sm.seq (Sm.mono (Q := fun e' L' s' => e' = .normal ∧ ∃ κ w ls, Hp (fun _ => False) s0 [slA none v 1 z.length (z.map (Value.int .i64))] [slA κ w 6 ls.length (lnC ls)] s' ∧ ls.length ≤ 9 ∧ (∀ x ∈ ls, MemLn x) ∧ Sub [(1, .int .i64 sc), (2, .int .i64 bend), (3, sv raw), (4, .int .i64 how), (11, w)] L') ?_ ?_)
 · refine Sm.seqW ?_
   conv => whnf
   refine Om.of _ (remI (a := how) (m := 17) (by decide)) ?_
   conv => whnf
   refine Sm.live [1, 2, 3, 4, 11, 27] ?_
   conv => whnf
   refine Sm.ofW ?_
   conv => whnf
   refine Br.mk (fun hc => ?_) (fun hc => ?_)
   · conv => whnf
     exact ⟨rfl, none, .slice none 0 0, [], (hp.pik (G := []) (by repeat (first | exact Pik.nil | exact Pik.refl _ | exact Rm.here | apply Rm.there | apply Pik.cons | apply Pik.skip))).push (.refl hp.wf) ⟨.inl ⟨rfl, rfl, rfl, rfl⟩⟩ (fun j hj => by cases hj), by decide, fun x hx => (by cases hx), subK_ok ⟨rfl, rfl, rfl, rfl, rfl, trivial⟩⟩
   · conv => whnf
     exact ⟨rfl, κ, v11, ls, hp, g4, hmL, subK_ok ⟨rfl, rfl, rfl, rfl, rfl, trivial⟩⟩
 clear hp hmL g3 g4
 rintro e' L' s ⟨rfl, κ, w, ls, hp, hl9, hmL, hs_⟩
 refine Sm.weak _ hs_ ?_
 clear hs_
 obtain ⟨a, c, rfl⟩ := (hp.slX (κ := κ) (v := w) .d).shape
 have hmem : ∀ x ∈ ls, x.amt.c < w128 := fun x hx => (hmL x hx).amt
 refine Sm.seqW ?_
 conv => whnf
 refine Sm.live [2, 3, 4, 11, 12] ?_
 conv => whnf
 refine Sm.seq (Sm.mono (Q := fun e' L' s' => e' = .normal ∧ s' = s ∧ ∃ to : Int, Sub [(2, .int .i64 bend), (3, sv raw), (4, .int .i64 how), (11, .slice a ls.length c), (12, .int .i64 to)] L') ?_ ?_)
 · refine Sm.seqW ?_
   conv => whnf
   refine Om.of _ (remI (a := how) (m := 5) (by decide)) ?_
   conv => whnf
   refine Sm.live [2, 3, 4, 11, 12, 31] ?_
   conv => whnf
   refine Sm.ofW ?_
   conv => whnf
   refine Br.mk (fun hc => ?_) (fun hc => ?_)
   · conv => whnf
     refine (pick_spec _ hh (m := 7) (by decide) (by decide)).mono ?_
     rintro _ s1 ⟨h1, rfl⟩
     obtain rfl := h1.symm
     conv => whnf
     exact ⟨rfl, rfl, _, subK_ok ⟨rfl, rfl, rfl, rfl, rfl, trivial⟩⟩
   · conv => whnf
     exact ⟨rfl, rfl, _, subK_ok ⟨rfl, rfl, rfl, rfl, rfl, trivial⟩⟩
 rintro e' L' s1 ⟨rfl, h1, to, hs_⟩
 obtain rfl := h1.symm
 refine Sm.weak _ hs_ ?_
 clear hs_
 refine Sm.seqW ?_
 conv => whnf
 refine hp.call (eprint_spec hp.wf (hp.slX (κ := κ) (v := .slice a ls.length c) .d) hmL (by omega)) ?_
 clear hp
 rintro _ s rfl hp _
 conv => whnf
 refine Sm.live [2, 3, 4, 11, 12, 13] ?_
 conv => whnf
 refine Sm.seq ?_
 refine Sm.seqW ?_
 conv => whnf
 refine hp.call (rprintLines_spec hp.wf (hp.slX (κ := κ) (v := .slice a ls.length c) .d) hmL (by omega)) ?_
 clear hp
 rintro _ s rfl hp _
 conv => whnf
 refine Om.of _ (sv_ne (printL ls) (printL ls)) ?_
 conv => whnf
 rw [beq_self_eq_true]
 repeat ((first | refine Br.y1 ?_ | refine Br.n1 ?_); conv => whnf)
 refine hp.call (eright_spec hp.wf (hp.slX (κ := κ) (v := .slice a ls.length c) .d) hmem (by omega) to) ?_
 clear hp
 rintro _ s rfl hp _
 conv => whnf
 repeat ((first | refine Br.y1 ?_ | refine Br.n1 ?_); conv => whnf)
 refine hp.call (rrightLines_spec hp.wf (hp.slX (κ := κ) (v := .slice a ls.length c) .d) hmem (by omega) to) ?_
 clear hp
 rintro _ s rfl hp _
 conv => whnf
 repeat ((first | refine Br.y1 ?_ | refine Br.n1 ?_); conv => whnf)
 have hmT : (ls.map turnL).length ≤ 1000 := by rw [List.length_map]; omega
 refine hp.callO (eturned_spec hp.wf (hp.slX (κ := κ) (v := .slice a ls.length c) .d) hmem (by omega)) ?_
 clear hp
 intro v8 κ8 s hp _
 obtain ⟨a8, c8, rfl⟩ := (hp.slF (κ := κ8) (v := v8) .d).shape
 conv => whnf
 repeat ((first | refine Br.y1 ?_ | refine Br.n1 ?_); conv => whnf)
 refine hp.callO (rturned_spec hp.wf (hp.slX (κ := κ) (v := .slice a ls.length c) .d) hmem (by omega)) ?_
 clear hp
 intro v9 κ9 s hp _
 obtain ⟨a9, c9, rfl⟩ := (hp.slF (κ := κ9) (v := v9) .d).shape
 conv => whnf
 repeat ((first | refine Br.y1 ?_ | refine Br.n1 ?_); conv => whnf)
 refine hp.call (esame_spec hp.wf (hp.slF (κ := κ8) (v := .slice a8 (ls.map turnL).length c8) .d) (hp.slF (κ := κ9) (v := .slice a9 (ls.map turnL).length c9) .d) hmT) ?_
 clear hp
 rintro _ s rfl hp _
 conv => whnf
 rw [decide_eq_true (rfl : ls.map turnL = ls.map turnL)]
 repeat ((first | refine Br.y1 ?_ | refine Br.n1 ?_); conv => whnf)
 refine Sm.live [2, 3, 4, 13, 57] ?_
 conv => whnf
 refine Sm.ofW ?_
 conv => whnf
 repeat ((first | refine Br.y1 ?_ | refine Br.n1 ?_); conv => whnf)
 have hpl : (printL ls).length ≤ 10000000 := by
  have := lines_le ls
  unfold printL
  split
  · simp
  · omega
 refine Sm.seq (Sm.mono (Q := fun e' L' s' => e' = .normal ∧ s' = s ∧ ∃ T : List UInt8, T.length ≤ 10000000000000 ∧ Sub [(13, sv T)] L') ?_ ?_)
 · refine Sm.seqW ?_
   conv => whnf
   refine (pick_spec _ hh (m := 4) (by decide) (by decide)).mono ?_
   rintro _ s1 ⟨h1, rfl⟩
   obtain rfl := h1.symm
   conv => whnf
   refine Sm.live [2, 3, 4, 13, 59] ?_
   conv => whnf
   refine Sm.block ?_
   refine Sm.seqW ?_
   conv => whnf
   refine Sm.live [2, 3, 4, 13, 59, 60] ?_
   conv => whnf
   refine Sm.ofW ?_
   conv => whnf
   refine Br.mk (fun hc => ?_) (fun hc => ?_)
   · conv => whnf
     exact ⟨rfl, rfl, raw, by omega, subK_ok ⟨rfl, trivial⟩⟩
   · conv => whnf
     refine Br.mk (fun hc2 => ?_) (fun hc2 => ?_)
     · conv => whnf
       refine Om.of _ (quoI (m := 4) (by decide) hh) ?_
       conv => whnf
       have hn : IntKind.i64.wrap (((bs ⟨(printL ls).toArray⟩).length : Int) + 1) = (((printL ls).length + 1 : Nat) : Int) := by
        show IntKind.i64.wrap (((printL ls).length : Int) + 1) = _
        rw [wi64 (by omega) (by omega)]; omega
       rw [hn]
       refine (pick_spec _ (tdiv_inR (m := 4) (by decide) hh) (m := (((printL ls).length + 1 : Nat) : Int)) (by omega) (by omega)).mono ?_
       rintro _ s1 ⟨h1, rfl⟩
       obtain rfl := h1.symm
       conv => whnf
       obtain ⟨k, hk, hk2⟩ := pickN (how.tdiv 4) (n := (printL ls).length + 1) (by omega)
       rw [hk]
       refine ⟨[0, 0, 3, 0, 0, 16, 56, 127, 0, 0, 768, 2047, 4095], by decide +kernel, by decide +kernel, ?_⟩
       conv => whnf
       refine Om.of _ (str_take Tryz.underlying9 .i64 (l := printL ls) (j := k) (by omega)) ?_
       conv => whnf
       refine (pick_spec _ hb (m := 7) (by decide) (by decide)).mono ?_
       rintro _ s1 ⟨h1, rfl⟩
       obtain rfl := h1.symm
       conv => whnf
       refine hp.dkS ?_
       conv => whnf
       refine Om.ofE (fun W => W.length ≤ 20) ?_ ?_
       · have hj := mod7 bend
         generalize bend % 7 = j at *
         have h7 : j = 0 ∨ j = 1 ∨ j = 2 ∨ j = 3 ∨ j = 4 ∨ j = 5 ∨ j = 6 := by omega
         rcases h7 with rfl | rfl | rfl | rfl | rfl | rfl | rfl
         · exact ⟨[44], by kernel_rfl, by decide⟩
         · exact ⟨[58], by kernel_rfl, by decide⟩
         · exact ⟨[64], by kernel_rfl, by decide⟩
         · exact ⟨[48], by kernel_rfl, by decide⟩
         · exact ⟨[45], by kernel_rfl, by decide⟩
         · exact ⟨[57, 57, 57, 57, 57, 57, 57, 57, 57, 57, 57, 57, 57, 57, 57, 57, 57, 57, 57, 57], by kernel_rfl, by decide⟩
         · exact ⟨[32], by kernel_rfl, by decide⟩
       intro W hW
       conv => whnf
       have ht := List.length_take_le k (printL ls)
       have hd := List.length_drop (i := k) (l := printL ls)
       refine Om.of _ (sv_add ((printL ls).take k) W (by omega)) ?_
       conv => whnf
       refine Om.of _ (str_drop Tryz.underlying9 .i64 (l := printL ls) (j := k) (by omega)) ?_
       conv => whnf
       refine Om.of _ (sv_add ((printL ls).take k ++ W) ((printL ls).drop k) (by simp only [List.length_append]; omega)) ?_
       conv => whnf
       exact ⟨rfl, rfl, (printL ls).take k ++ W ++ (printL ls).drop k, by simp only [List.length_append]; omega, subK_ok ⟨rfl, trivial⟩⟩
     · conv => whnf
       exact ⟨rfl, rfl, printL ls, by omega, subK_ok ⟨rfl, trivial⟩⟩
 rintro e' L' s1 ⟨rfl, h1, T, hT, hs_⟩
 obtain rfl := h1.symm
 refine Sm.weak _ hs_ ?_
 clear hs_
 refine Sm.seqW ?_
 conv => whnf
 refine hp.call (eread_spec hp.wf (hg.keep hp.fr) T hT) ?_
 intro r s hr h1 k1
 obtain ⟨w6, rfl, how_⟩ := hr
 obtain ⟨κ6, hp⟩ := hp.on k1 how_
 clear h1 k1 how_
 obtain ⟨a6, c6, rfl⟩ := (hp.slF (κ := κ6) (v := w6) .d).shape
 conv => whnf
 refine Sm.live [13, 15, 16] ?_
 conv => whnf
 refine Sm.seqW ?_
 conv => whnf
 refine hp.call (rreadLines_spec hp.wf T hT) ?_
 intro r s hr h1 k1
 obtain ⟨w7, rfl, how_⟩ := hr
 obtain ⟨κ7, hp⟩ := hp.on k1 how_
 clear h1 k1 how_
 obtain ⟨a7, c7, rfl⟩ := (hp.slF (κ := κ7) (v := w7) .d).shape
 conv => whnf
 refine Sm.live [15, 16, 17, 18] ?_
 conv => whnf
 refine Sm.seqW ?_
 conv => whnf
 refine hp.call (eknown_spec hp.wf (hg.keep hp.fr)) ?_
 clear hp
 rintro _ s rfl hp _
 conv => whnf
 repeat ((first | refine Br.y1 ?_ | refine Br.n1 ?_); conv => whnf)
 have hrl := readL_len T
 refine hp.call (esame_spec hp.wf (hp.slF (κ := κ6) (v := .slice a6 (readL T).1.length c6) .d) (hp.slF (κ := κ7) (v := .slice a7 (readL T).1.length c7) .d) (by omega)) ?_
 clear hp
 rintro _ s rfl hp _
 conv => whnf
 rw [decide_eq_true (rfl : (readL T).1 = (readL T).1)]
 repeat ((first | refine Br.y1 ?_ | refine Br.n1 ?_); conv => whnf)
 refine Sm.live [10] ?_
 conv => whnf
 refine Sm.ofW ?_
 conv => whnf
 exact ⟨rfl⟩
end
end Go.Ev
