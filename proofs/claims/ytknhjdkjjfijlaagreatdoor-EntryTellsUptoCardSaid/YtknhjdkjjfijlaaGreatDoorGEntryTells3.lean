/- Several texts in one: what the law's text leans on, one behind the other. No condition but those that each theorem names. -/
import Derived.Test.YtknhjdkjjfijlaaGreatDoorGEntryTells2
noncomputable section
namespace Go.Ev
open Go.Proofs
set_option linter.unusedVariables false
set_option linter.unusedSectionVars false
set_option maxRecDepth 100000
/- Numbers of texts: Atoi, for numbers of two digits. No condition. -/
section
variable [Lk]
theorem toError2_spec {z : St} (wf : WF z) (hg : Gs z) (f l : List UInt8) (hl : l.length ≤ 281474976710656) (k : Int) (hk : k = 1 ∨ k = 2) :
  Cw Tryz.prog 146 [sv f, sv l, .int .i64 0, .int .i64 0, erV k] z fun r s' => K0 z s' ∧ ∃ v, r = .iface 216 v := by
 have hp : Hp (fun _ => False) z [] [] z := Hp.start _ wf _ (by simp)
 refine Cw.enterS Tryz.func146 rfl rfl ?_
 refine Sm.seqW ?_
 conv => whnf
 refine Sm.live [0, 1, 2, 3, 4, 10] ?_
 conv => whnf
 refine Sm.seq ?_
 refine Sm.seqW ?_
 conv => whnf
 refine Sm.block ?_
 refine Sm.seqW ?_
 conv => whnf
 rcases hk with rfl | rfl
 · refine Om.of (.bool false) (by kernel_rfl) ?_
   conv => whnf
   refine Sm.ofW ?_
   conv => whnf
   repeat ((first | refine Br.y1 ?_ | refine Br.n1 ?_); conv => whnf)
   refine Om.of (.bool true) (by kernel_rfl) ?_
   conv => whnf
   repeat ((first | refine Br.y1 ?_ | refine Br.n1 ?_); conv => whnf)
   refine hp.call (rangeError_spec hp.wf (hg.keep hp.fr) f l hl) ?_
   clear hp
   intro v s _ hp _
   conv => whnf
   exact ⟨hp.fr, _, rfl⟩
 · refine Om.of (.bool true) (by kernel_rfl) ?_
   conv => whnf
   refine Sm.ofW ?_
   conv => whnf
   repeat ((first | refine Br.y1 ?_ | refine Br.n1 ?_); conv => whnf)
   refine hp.call (syntaxError_spec hp.wf (hg.keep hp.fr) f l hl) ?_
   clear hp
   intro v s _ hp _
   conv => whnf
   exact ⟨hp.fr, _, rfl⟩
structure AtoiB (l : List UInt8) (r : Value) : Prop where
 ex : ∃ (n : Int) (e : Value), r = .tuple #[.int .i64 n, e] ∧ (-9223372036854775808 ≤ n ∧ n < 9223372036854775808) ∧ (e = .nilIface ∨ e = erV 1 ∨ e = erV 2) ∧ ∀ k, k < 100 → l = itoaF k → n = (k : Int) ∧ e = .nilIface
def fstD (k : Nat) : Nat := if k < 10 then k else k / 10
theorem fstD_lt {k : Nat} (h : k < 100) : fstD k < 10 := by unfold fstD; split <;> omega
theorem itoaF_len {k : Nat} : (itoaF k).length = if k < 10 then 1 else 2 := by unfold itoaF; split <;> rfl
theorem itoaF_0 {k : Nat} (h : 0 < (itoaF k).length) : (itoaF k)[0] = dgt (fstD k) := by
 unfold itoaF fstD
 by_cases g : k < 10
 · simp [g]
 · simp [g]
theorem itoaF_1 {k : Nat} (h : 1 < (itoaF k).length) : 10 ≤ k ∧ (itoaF k)[1] = dgt (k % 10) := by
 by_cases g : k < 10
 · rw [itoaF_len, if_pos g] at h; omega
 · refine ⟨by omega, ?_⟩
   simp [itoaF, g]
theorem iatoi2_spec {z : St} (wf : WF z) (l : List UInt8) (hl : l.length ≤ 281474976710656) :
  Cw Tryz.prog 145 [sv l] z fun r s' => K0 z s' ∧ AtoiB l r := by
 have hp : Hp (fun _ => False) z [] [] z := Hp.start _ wf _ (by simp)
 refine Cw.enterS Tryz.func145 rfl rfl ?_
 refine Sm.seqW ?_
 conv => whnf
 refine Sm.live [0, 2, 3] ?_
 conv => whnf
 refine Sm.seqW ?_
 conv => whnf
 refine Sm.live [0, 4] ?_
 conv => whnf
 refine Sm.seq ?_
 refine Sm.seqC (fun e L' s' => e = .normal ∧ s' = z ∧ ∃ B, (B = true → 0 < l.length) ∧ (0 < l.length → l.length < 3 → B = true) ∧ Sub [(0, sv l), (4, .int .i64 ((l.length : Nat) : Int)), (30, .bool B)] L') ?_ ?_
 · conv => whnf
   by_cases h1 : 0 < l.length
   · have q1 : decide ((0 : Int) < (((bs ⟨l.toArray⟩).length : Nat) : Int)) = true := decide_eq_true (by show (0 : Int) < ((l.length : Nat) : Int); omega)
     by_cases h2 : l.length < 19
     · have q2 : decide ((((bs ⟨l.toArray⟩).length : Nat) : Int) < 19) = true := decide_eq_true (by show ((l.length : Nat) : Int) < 19; omega)
       repeat (first | (refine Br.yes q1 ?_; conv => whnf) | (refine Br.yes q2 ?_; conv => whnf) | ((first | refine Br.y1 ?_ | refine Br.n1 ?_); conv => whnf))
       exact ⟨rfl, rfl, true, fun _ => h1, fun _ _ => rfl, subK_ok ⟨rfl, rfl, by first | rfl | exact congrArg (fun x => some (Value.bool x)) q2, trivial⟩⟩
     · have q2 : decide ((((bs ⟨l.toArray⟩).length : Nat) : Int) < 19) = false := decide_eq_false (by show ¬ ((l.length : Nat) : Int) < 19; omega)
       repeat (first | (refine Br.yes q1 ?_; conv => whnf) | (refine Br.no q2 ?_; conv => whnf) | ((first | refine Br.y1 ?_ | refine Br.n1 ?_); conv => whnf))
       exact ⟨rfl, rfl, false, fun h => (by cases h), fun h _ => (by omega), subK_ok ⟨rfl, rfl, by first | rfl | exact congrArg (fun x => some (Value.bool x)) q2, trivial⟩⟩
   · have q1 : decide ((0 : Int) < (((bs ⟨l.toArray⟩).length : Nat) : Int)) = false := decide_eq_false (by show ¬ (0 : Int) < ((l.length : Nat) : Int); omega)
     repeat (first | (refine Br.no q1 ?_; conv => whnf) | ((first | refine Br.y1 ?_ | refine Br.n1 ?_); conv => whnf))
     exact ⟨rfl, rfl, false, fun h => (by cases h), fun h _ => (by omega), subK_ok ⟨rfl, rfl, by first | rfl | exact congrArg (fun x => some (Value.bool x)) q1, trivial⟩⟩
 rintro e L' s' ⟨rfl, rfl, B, hB1, hB2, hs⟩
 refine Sm.weak _ hs ?_
 clear hs
 cases B with
 | false =>
   refine Sm.cond (v := false) rfl (fun h => (by cases h)) (fun _ => ?_)
   refine Sm.ofW ?_
   conv => whnf
   refine Sm.seqW ?_
   conv => whnf
   refine hp.call (parseInt_spec hp.wf l hl) ?_
   clear hp
   rintro _ s ⟨n, e, rfl, h1, h2, he⟩ hp _
   conv => whnf
   refine Sm.live [9, 10] ?_
   conv => whnf
   refine Sm.seqW ?_
   conv => whnf
   refine Sm.ofW ?_
   conv => whnf
   exact ⟨hp.fr, ⟨n, e, rfl, ⟨h1, h2⟩, he, fun k hk hlk => absurd (hB2 (by rw [hlk, itoaF_len]; split <;> decide) (by rw [hlk, itoaF_len]; split <;> decide)) (by decide)⟩⟩
 | true =>
   have h1 := hB1 rfl
   clear hB1 hB2
   have hsg : ∀ k, k < 100 → l = itoaF k → l[0] = dgt (fstD k) := fun k hk h => by subst h; exact itoaF_0 h1
   refine Sm.cond (v := true) rfl (fun _ => ?_) (fun h => (by cases h))
   refine Sm.seqW ?_
   conv => whnf
   refine Sm.live [0, 4, 5] ?_
   conv => whnf
   refine Sm.seq ?_
   refine Sm.mono (Q := fun e L' s2 => (e = .normal ∧ s2 = s' ∧ ∃ l' : List UInt8, (∀ k, k < 100 → l = itoaF k → l' = l) ∧ l'.length ≤ l.length ∧ Sub [(0, sv l'), (5, sv l)] L') ∨ (e = .ret ∧ retK Tryz.prog Tryz.f145.results.toList (fun r s2 => K0 s' s2 ∧ AtoiB l r) .ret L' s2)) ?_ ?_
   · refine Sm.seqW ?_
     conv => whnf
     refine Om.of _ (str_index Tryz.underlying9 (l := l) (i := 0) h1 .i64) ?_
     conv => whnf
     have b1 : ∀ {p : Prop}, ((l[0].toNat : Int) == 45) = true → (∀ k, k < 100 → l = itoaF k → p) := fun {p} h k hk hlk => absurd (beq_iff_eq.1 h) (by rw [hsg k hk hlk]; have := (dgt_sign _ (fstD_lt hk)).1; omega)
     have b2 : ∀ {p : Prop}, ((l[0].toNat : Int) == 43) = true → (∀ k, k < 100 → l = itoaF k → p) := fun {p} h k hk hlk => absurd (beq_iff_eq.1 h) (by rw [hsg k hk hlk]; have := (dgt_sign _ (fstD_lt hk)).2; omega)
     repeat' (first | (refine Br.yes (by first | with_reducible rfl | with_reducible assumption) ?_; conv => whnf) | (refine Br.no (by first | with_reducible rfl | with_reducible assumption) ?_; conv => whnf) | (refine Om.of _ (str_index Tryz.underlying9 (l := l) (i := 0) h1 .i64) ?_; conv => whnf) | (refine Br.mk (fun hq => ?_) (fun hq => ?_) <;> conv => whnf))
     all_goals
      refine Sm.ofW ?_
      conv => whnf
      repeat' (first | (refine Br.yes (by first | with_reducible rfl | with_reducible assumption) ?_; conv => whnf) | (refine Br.no (by first | with_reducible rfl | with_reducible assumption) ?_; conv => whnf) | (refine Om.of _ (str_drop Tryz.underlying9 (l := l) .i64 (j := 1) h1) ?_; conv => whnf) | (refine Br.mk (fun hq => ?_) (fun hq => ?_) <;> conv => whnf))
     all_goals first
      | exact .inl ⟨rfl, rfl, l, fun _ _ _ => rfl, Nat.le_refl _, subK_ok ⟨rfl, rfl, trivial⟩⟩
      | exact .inl ⟨rfl, rfl, l.drop 1, fun k hk hlk => b1 (by assumption) k hk hlk, by (rw [List.length_drop]; omega), subK_ok ⟨rfl, rfl, trivial⟩⟩
      | exact .inl ⟨rfl, rfl, l.drop 1, fun k hk hlk => b2 (by assumption) k hk hlk, by (rw [List.length_drop]; omega), subK_ok ⟨rfl, rfl, trivial⟩⟩
      | (refine .inr ⟨rfl, ?_⟩; (conv => whnf); exact ⟨hp.fr, ⟨0, erV 2, rfl, ⟨by decide, by decide⟩, .inr (.inr rfl), fun k hk hlk => b1 (by assumption) k hk hlk⟩⟩)
      | (refine .inr ⟨rfl, ?_⟩; (conv => whnf); exact ⟨hp.fr, ⟨0, erV 2, rfl, ⟨by decide, by decide⟩, .inr (.inr rfl), fun k hk hlk => b2 (by assumption) k hk hlk⟩⟩)
   rintro e L' s2 (⟨rfl, rfl, l', hl1, hl2, hs⟩ | ⟨rfl, hh⟩)
   · refine Sm.weak _ hs ?_
     clear hs
     refine Sm.seqW ?_
     conv => whnf
     refine Sm.live [0, 5, 6] ?_
     conv => whnf
     refine Sm.seq ?_
     refine Sm.seqW ?_
     conv => whnf
     refine hp.bytesOf Tryz.underlying9 Tryz.underlying59 Tryz.underlying5 ⟨l'.toArray⟩ ?_
     clear hp
     intro b s hp _
     conv => whnf
     refine Sm.live [5, 6, 47, 48, 49] ?_
     conv => whnf
     refine Sm.block ?_
     refine Sm.loop ?_
     refine Lp.ofS (α := Nat × Int) (fun x => [(5, sv l), (6, .int .i64 x.2), (47, .slice (some ⟨b, 0, none⟩) l'.length l'.length), (48, .int .i64 ((l'.length : Nat) : Int)), (49, .int .i64 (x.1 : Int))])
      (fun x s' => x.1 ≤ l'.length ∧ (-9223372036854775808 ≤ x.2 ∧ x.2 < 9223372036854775808) ∧ (∀ k, k < 100 → l = itoaF k → (x.1 = 0 → x.2 = 0) ∧ (x.1 = 1 → x.2 = (fstD k : Int)) ∧ (x.1 = 2 → x.2 = (k : Int))) ∧ Hp (fun _ => False) s2 [] [blkA b b (byteVals l') 1] s') (fun x => l'.length - x.1) ?_ (0, 0) (subK_ok (by refine ⟨rfl, rfl, rfl, rfl, rfl, trivial⟩)) ⟨Nat.zero_le _, ⟨by decide, by decide⟩, fun k hk h => ⟨fun _ => rfl, fun h => (by cases h), fun h => (by cases h)⟩, hp⟩
     clear hp
     rintro ⟨i, n⟩ s ⟨hi, hn, hx, hp⟩
     have hi : i ≤ l'.length := hi
     have hn : -9223372036854775808 ≤ n ∧ n < 9223372036854775808 := hn
     have hx : ∀ k, k < 100 → l = itoaF k → (i = 0 → n = 0) ∧ (i = 1 → n = (fstD k : Int)) ∧ (i = 2 → n = (k : Int)) := hx
     refine Sm.seqW ?_
     conv => whnf
     refine Sm.live [5, 6, 47, 48, 49, 50] ?_
     conv => whnf
     refine Sm.seq ?_
     refine Sm.ofW ?_
     conv => whnf
     refine Br.mk (fun hq => ?_) (fun hq => ?_)
     · have hq : i < l'.length := by have : (i : Int) < (l'.length : Int) := of_decide_eq_true hq; omega
       obtain ⟨p, y, e1, e2, e3, _, rfl⟩ := index_sl UB Tryz.underlying5 rfl (hp.blkSl (n := l'.length) .d (by rw [byteVals_length]; omega)) .i64 hq
       have e4 : y = .int .u8 ((l'[i].toNat : Nat) : Int) := by
        unfold byteVals at e2
        rw [List.getElem?_map, List.getElem?_eq_getElem hq] at e2
        injection e2 with e2; exact e2.symm
       subst e4
       have hc1 : ∀ k, k < 100 → l = itoaF k → (i = 0 ∧ l'[i] = dgt (fstD k)) ∨ (i = 1 ∧ 10 ≤ k ∧ l'[i] = dgt (k % 10)) := fun k hk h => by
        have h9 := hl1 k hk h
        subst h9
        subst h
        have hlen := itoaF_len (k := k)
        by_cases i0 : i = 0
        · subst i0
          exact .inl ⟨rfl, itoaF_0 hq⟩
        · have i1 : i = 1 := by
           split at hlen <;> omega
          subst i1
          exact .inr ⟨rfl, itoaF_1 hq⟩
       have hc2 : ∀ k, k < 100 → l = itoaF k → IntKind.u8.wrap ((l'[i].toNat : Int) - 48) < 10 := fun k hk h => by
        rcases hc1 k hk h with ⟨_, g⟩ | ⟨_, _, g⟩
        · rw [g, dgt_sub _ (fstD_lt hk)]; have := fstD_lt hk; omega
        · rw [g, dgt_sub _ (by omega)]; omega
       generalize hc : l'[i] = c at *
       conv => whnf
       refine Sm.seq ?_
       refine Sm.block ?_
       refine Sm.seqW ?_
       conv => whnf
       refine Om.of _ (e1) ?_
       conv => whnf
       refine Om.of _ (e3) ?_
       conv => whnf
       refine Sm.live [5, 6, 8, 47, 48, 49] ?_
       conv => whnf
       refine Sm.ofW ?_
       conv => whnf
       refine Br.mk (fun h9 => ?_) (fun h9 => ?_)
       · conv => whnf
         exact ⟨hp.fr, ⟨0, erV 2, rfl, ⟨by decide, by decide⟩, .inr (.inr rfl), fun k hk h => absurd (of_decide_eq_true h9) (by have := hc2 k hk h; omega)⟩⟩
       · conv => whnf
         refine Sm.ofW ?_
         conv => whnf
         exact ⟨(i + 1, _), by (show l'.length - (i + 1) < l'.length - i); omega, subK_ok (by refine ⟨rfl, rfl, rfl, rfl, congrArg (fun x => some (Value.int .i64 x)) (show IntKind.i64.wrap ((i : Int) + 1) = ((i + 1 : Nat) : Int) by rw [wi64 (by omega) (by omega)]; omega), trivial⟩), by (show i + 1 ≤ l'.length); omega, i64_rng _, fun k hk h => ⟨fun h8 => (by cases h8), fun h8 => by
          rcases hc1 k hk h with ⟨g1, g2⟩ | ⟨g1, _⟩
          · show IntKind.i64.wrap (IntKind.i64.wrap (n * 10) + IntKind.i64.wrap (IntKind.u8.wrap ((c.toNat : Int) - 48))) = (fstD k : Int)
            have hf := fstD_lt hk
            rw [(hx k hk h).1 g1, g2, dgt_sub _ hf, wi64 (n := (0 : Int) * 10) (by decide) (by decide), wi64 (n := (fstD k : Int)) (by omega) (by omega), wi64 (by omega) (by omega)]; omega
          · have h8 : i + 1 = 1 := h8
            omega, fun h8 => by
          rcases hc1 k hk h with ⟨g1, g2⟩ | ⟨g1, g3, g2⟩
          · have h8 : i + 1 = 2 := h8
            omega
          · show IntKind.i64.wrap (IntKind.i64.wrap (n * 10) + IntKind.i64.wrap (IntKind.u8.wrap ((c.toNat : Int) - 48))) = (k : Int)
            have hf : fstD k = k / 10 := if_neg (by omega)
            rw [(hx k hk h).2.1 g1, g2, dgt_sub _ (show k % 10 < 10 by omega), hf, wi64 (n := ((k / 10 : Nat) : Int) * 10) (by omega) (by omega), wi64 (n := ((k % 10 : Nat) : Int)) (by omega) (by omega), wi64 (by omega) (by omega)]; omega⟩, hp⟩
     · have hq : i = l'.length := by have := of_decide_eq_false hq; omega
       have fin : ∀ k, k < 100 → l = itoaF k → n = (k : Int) := fun k hk h => by
        have hlen : i = if k < 10 then 1 else 2 := by rw [hq, hl1 k hk h, h, itoaF_len]
        by_cases g : k < 10
        · rw [if_pos g] at hlen
          have := (hx k hk h).2.1 hlen
          unfold fstD at this
          rw [if_pos g] at this
          exact this
        · rw [if_neg g] at hlen
          exact (hx k hk h).2.2 hlen
       conv => whnf
       refine Sm.seq ?_
       refine Sm.seqW ?_
       conv => whnf
       refine Om.of _ (str_index Tryz.underlying9 (l := l) (i := 0) h1 .i64) ?_
       conv => whnf
       refine Sm.live [5, 6, 66] ?_
       conv => whnf
       refine Sm.ofW ?_
       conv => whnf
       refine Br.mk (fun h9 => ?_) (fun h9 => ?_)
       · conv => whnf
         refine Sm.live [6] ?_
         conv => whnf
         refine Sm.seqW ?_
         conv => whnf
         refine Sm.ofW ?_
         conv => whnf
         exact ⟨hp.fr, ⟨_, .nilIface, rfl, i64_rng _, .inl rfl, fun k hk h => absurd (beq_iff_eq.1 h9) (by rw [hsg k hk h]; have := (dgt_sign _ (fstD_lt hk)).1; omega)⟩⟩
       · conv => whnf
         refine Sm.live [6] ?_
         conv => whnf
         refine Sm.seqW ?_
         conv => whnf
         refine Sm.ofW ?_
         conv => whnf
         exact ⟨hp.fr, ⟨n, .nilIface, rfl, hn, .inl rfl, fun k hk h => ⟨fin k hk h, rfl⟩⟩⟩
   · exact hh
theorem atoi2_spec {z : St} (wf : WF z) (hg : Gs z) (l : List UInt8) (hl : l.length ≤ 281474976710656) :
  Cw Tryz.prog 128 [sv l] z fun r s' => K0 z s' ∧ ∃ (n : Int) (e : Value), r = .tuple #[.int .i64 n, e] ∧ (-9223372036854775808 ≤ n ∧ n < 9223372036854775808) ∧ (e = .nilIface ∨ ∃ v, e = .iface 216 v) ∧ ∀ k, k < 100 → l = itoaF k → n = (k : Int) ∧ e = .nilIface := by
 have hp : Hp (fun _ => False) z [] [] z := Hp.start _ wf _ (by simp)
 refine Cw.enterS Tryz.func128 rfl rfl ?_
 refine Sm.seqW ?_
 conv => whnf
 refine Sm.live [0, 2, 3] ?_
 conv => whnf
 refine Sm.seqW ?_
 conv => whnf
 refine hp.call (iatoi2_spec hp.wf l hl) ?_
 clear hp
 rintro _ s ⟨n, e, rfl, h1, he, hk⟩ hp _
 conv => whnf
 refine Sm.live [0, 4, 5] ?_
 conv => whnf
 refine Sm.seq ?_
 refine Sm.seqW ?_
 conv => whnf
 rcases he with rfl | rfl | rfl
 · refine Om.of (.bool false) (by kernel_rfl) ?_
   conv => whnf
   refine Sm.ofW ?_
   conv => whnf
   repeat ((first | refine Br.y1 ?_ | refine Br.n1 ?_); conv => whnf)
   refine Sm.seqW ?_
   conv => whnf
   refine Sm.ofW ?_
   conv => whnf
   exact ⟨hp.fr, ⟨n, _, rfl, h1, .inl rfl, hk⟩⟩
 · refine Om.of (.bool true) (by kernel_rfl) ?_
   conv => whnf
   refine Sm.ofW ?_
   conv => whnf
   repeat ((first | refine Br.y1 ?_ | refine Br.n1 ?_); conv => whnf)
   refine hp.call (toError2_spec hp.wf (hg.keep hp.fr) [65, 116, 111, 105] l hl 1 (.inl rfl)) ?_
   clear hp
   rintro _ s ⟨v, rfl⟩ hp _
   conv => whnf
   exact ⟨hp.fr, ⟨n, _, rfl, h1, .inr ⟨v, rfl⟩, fun k h1 h2 => absurd (hk k h1 h2).2 (by unfold erV; intro h; cases h)⟩⟩
 · refine Om.of (.bool true) (by kernel_rfl) ?_
   conv => whnf
   refine Sm.ofW ?_
   conv => whnf
   repeat ((first | refine Br.y1 ?_ | refine Br.n1 ?_); conv => whnf)
   refine hp.call (toError2_spec hp.wf (hg.keep hp.fr) [65, 116, 111, 105] l hl 2 (.inr rfl)) ?_
   clear hp
   rintro _ s ⟨v, rfl⟩ hp _
   conv => whnf
   exact ⟨hp.fr, ⟨n, _, rfl, h1, .inr ⟨v, rfl⟩, fun k h1 h2 => absurd (hk k h1 h2).2 (by unfold erV; intro h; cases h)⟩⟩
end

/- Texts that are cut at a byte, and put together again, without a program. No condition. -/
section
variable [Lk]
def splitL (c : UInt8) : List UInt8 → List (List UInt8)
 | [] => [[]]
 | x :: xs => if x = c then [] :: splitL c xs else (x :: (splitL c xs).headD []) :: (splitL c xs).tail
def joinL (c : UInt8) : List (List UInt8) → List UInt8
 | [] => []
 | x :: r => x ++ r.flatMap fun w => c :: w
theorem splitL_ne (c : UInt8) : ∀ l, splitL c l ≠ []
 | [] => by simp [splitL]
 | x :: xs => by unfold splitL; split <;> simp
theorem splitL_cons {c x : UInt8} {xs : List UInt8} (h : x ≠ c) {w : List UInt8} {r : List (List UInt8)} (hs : splitL c xs = w :: r) : splitL c (x :: xs) = (x :: w) :: r := by
 rw [splitL, if_neg h, hs]; rfl
theorem splitL_hd {c : UInt8} {xs : List UInt8} : splitL c (c :: xs) = [] :: splitL c xs := by
 rw [splitL, if_pos rfl]
theorem beq_toNat (x c : UInt8) : Nat.beq x.toNat c.toNat = decide (x = c) := by
 by_cases h : x = c
 · subst h; rw [Nat.beq_refl, decide_eq_true rfl]
 · rw [decide_eq_false h]
   cases hb : Nat.beq x.toNat c.toNat with
   | false => rfl
   | true => exact absurd (UInt8.toNat_inj.1 (Nat.eq_of_beq_eq_true hb)) h
theorem idxL_sh (c : Nat) : ∀ (l : List UInt8) (i : Nat), idxL c l i = (idxL c l 0).map (· + i)
 | [], i => rfl
 | x :: xs, i => by
   unfold idxL
   cases Nat.beq x.toNat c with
   | true => simp
   | false =>
     show idxL c xs (i + 1) = (idxL c xs (0 + 1)).map (· + i)
     rw [idxL_sh c xs (i + 1), idxL_sh c xs (0 + 1), Option.map_map]
     congr 1
     funext a; simp only [Function.comp]; omega
theorem cntL_shift (c : Nat) : ∀ (l : List UInt8) (n : Nat), cntL c l n = cntL c l 0 + n
 | [], n => by simp [cntL]
 | x :: xs, n => by
   unfold cntL
   cases Nat.beq x.toNat c with
   | true =>
     show cntL c xs (n + 1) = cntL c xs (0 + 1) + n
     rw [cntL_shift c xs (n + 1), cntL_shift c xs (0 + 1)]; omega
   | false => exact cntL_shift c xs n
theorem split_idx (c : UInt8) : ∀ l : List UInt8, splitL c l = match idxL c.toNat l 0 with
  | some i => l.take i :: splitL c (l.drop (i + 1))
  | none => [l]
 | [] => rfl
 | x :: xs => by
   have ih := split_idx c xs
   unfold idxL
   rw [beq_toNat]
   by_cases h : x = c
   · subst h
     rw [decide_eq_true rfl, splitL_hd]; rfl
   · rw [decide_eq_false h]
     show _ = (match idxL c.toNat xs (0 + 1) with
      | some i => (x :: xs).take i :: splitL c ((x :: xs).drop (i + 1))
      | none => [x :: xs])
     rw [idxL_sh]
     cases hi : idxL c.toNat xs 0 with
     | none =>
       rw [hi] at ih
       exact splitL_cons h ih
     | some i =>
       rw [hi] at ih
       rw [splitL_cons h ih]
       rfl
theorem split_some {c : UInt8} {l : List UInt8} {i : Nat} (h : idxL c.toNat l 0 = some i) : splitL c l = l.take i :: splitL c (l.drop (i + 1)) := by
 rw [split_idx, h]
theorem split_none {c : UInt8} {l : List UInt8} (h : idxL c.toNat l 0 = none) : splitL c l = [l] := by
 rw [split_idx, h]
theorem split_cnt (c : UInt8) : ∀ l : List UInt8, (splitL c l).length = cntL c.toNat l 0 + 1
 | [] => rfl
 | x :: xs => by
   have ih := split_cnt c xs
   unfold cntL
   rw [beq_toNat]
   by_cases h : x = c
   · subst h
     rw [decide_eq_true rfl, splitL_hd, List.length_cons, ih]
     show _ = cntL _ xs (0 + 1) + 1
     rw [cntL_shift _ xs (0 + 1)]
   · rw [decide_eq_false h]
     cases hs : splitL c xs with
     | nil => exact absurd hs (splitL_ne c xs)
     | cons w r =>
       rw [splitL_cons h hs]
       rw [hs] at ih
       exact ih
theorem cntL_le (c : Nat) : ∀ l : List UInt8, cntL c l 0 ≤ l.length
 | [] => by simp [cntL]
 | x :: xs => by
   have := cntL_le c xs
   unfold cntL
   cases Nat.beq x.toNat c with
   | true => show cntL c xs (0 + 1) ≤ _; rw [cntL_shift c xs (0 + 1)]; simp only [List.length_cons]; omega
   | false => simp only [List.length_cons]; omega
theorem mem_split_len {c : UInt8} : ∀ {l w : List UInt8}, w ∈ splitL c l → w.length ≤ l.length
 | [], w, h => by simp [splitL] at h; subst h; simp
 | x :: xs, w, h => by
   by_cases hx : x = c
   · subst hx; rw [splitL_hd] at h
     rcases List.mem_cons.1 h with rfl | h
     · simp
     · have := mem_split_len h; simp only [List.length_cons]; omega
   · cases hs : splitL c xs with
     | nil => exact absurd hs (splitL_ne c xs)
     | cons v r =>
       rw [splitL_cons hx hs] at h
       rcases List.mem_cons.1 h with rfl | h
       · have := mem_split_len (c := c) (l := xs) (w := v) (by rw [hs]; simp); simp only [List.length_cons]; omega
       · have := mem_split_len (c := c) (l := xs) (w := w) (by rw [hs]; simp [h]); simp only [List.length_cons]; omega
end

/- Lines of an entry as text, without a program: the program's way, and the document's, to read one. No condition. -/
section
variable [Lk]
def readD (l : List UInt8) : Dc × Int :=
 if readOk (bodyF l) = false then (Dc.zero, 2) else if 10 ^ 30 ≤ valD (wholeF (bodyF l) ++ restF (bodyF l)) then (Dc.zero, 3)
 else if (hasP l [45] && decide (valD (wholeF (bodyF l) ++ restF (bodyF l)) = 0)) = true then (Dc.zero, 2) else (⟨hasP l [45], valD (wholeF (bodyF l) ++ restF (bodyF l)), (restF (bodyF l)).length⟩, 0)
structure Ln where
 acct : Int
 amt : Dc
 wth : Int
def Ln.zero : Ln := ⟨0, Dc.zero, 0⟩
def cut1 (c : UInt8) (l : List UInt8) : List UInt8 := match idxL c.toNat l 0 with
 | some i => l.take i
 | none => l
def cut2 (c : UInt8) (l : List UInt8) : List UInt8 := match idxL c.toNat l 0 with
 | some i => l.drop (i + 1)
 | none => []
def cutQ (c : UInt8) (l : List UInt8) : Bool := (idxL c.toNat l 0).isSome
def smallF (l : List UInt8) : Int := match (List.range 100).find? fun k => l == itoaF k with
 | some k => (k : Int)
 | none => -1
def lessN (l : List UInt8) : Bool := match bodyF l with
 | a :: b :: _ => a == 48 && !(b == 46)
 | _ => false
def oneF (t : List UInt8) : Ln × Int :=
 let rest := cut2 58 t
 if (!cutQ 58 t || (decide (smallF (cut1 58 t) < 0) || (cutQ 64 rest && decide (smallF (cut2 64 rest) < 0)))) = true then (Ln.zero, 2) else
 let d := readD (cut1 64 rest)
 if ((d.2 == 0 && !(printF d.1 == cut1 64 rest)) || lessN (cut1 64 rest)) = true then (Ln.zero, 2) else
 (⟨smallF (cut1 58 t), d.1, if cutQ 64 rest = true then smallF (cut2 64 rest) else -1⟩, d.2)
def oneR (t : List UInt8) : Ln × Int :=
 match splitL 58 t with
 | [a, r] => match splitL 64 r with
   | [b] => if smallF a < 0 then (Ln.zero, 2) else if lessN b = true then (Ln.zero, 2) else if (readD b).2 ≠ 0 then (Ln.zero, (readD b).2) else if printF (readD b).1 ≠ b then (Ln.zero, 2) else (⟨smallF a, (readD b).1, -1⟩, 0)
   | [b, w] => if smallF a < 0 then (Ln.zero, 2) else if smallF w < 0 then (Ln.zero, 2) else if lessN b = true then (Ln.zero, 2) else if (readD b).2 ≠ 0 then (Ln.zero, (readD b).2) else if printF (readD b).1 ≠ b then (Ln.zero, 2) else (⟨smallF a, (readD b).1, smallF w⟩, 0)
   | _ => (Ln.zero, 2)
 | _ => (Ln.zero, 2)
def readL (s : List UInt8) : List Ln × Int :=
 if 8 < (splitL 44 s).length then ([], 2) else
 if ((splitL 44 s).any fun t => (oneF t).2 == 2) = true then ([], 2) else
 if ((splitL 44 s).any fun t => !((oneF t).2 == 0)) = true then ([], 3) else ((splitL 44 s).map fun t => (oneF t).1, 0)
theorem readD_e (l : List UInt8) : (readD l).2 = 0 ∨ (readD l).2 = 2 ∨ (readD l).2 = 3 := by
 unfold readD
 split
 · simp
 · split
   · simp
   · split <;> simp
theorem oneF_e (l : List UInt8) : (oneF l).2 = 0 ∨ (oneF l).2 = 2 ∨ (oneF l).2 = 3 := by
 unfold oneF
 simp only
 split
 · simp
 · split
   · simp
   · exact readD_e _
theorem readD_digits {l : List UInt8} (h : (readD l).2 ≠ 2) : ∀ x ∈ l, x = 45 ∨ x = 46 ∨ isD x = true := by
 have hr : readOk (bodyF l) = true := by
  cases hq : readOk (bodyF l) with
  | true => rfl
  | false => unfold readD at h; rw [if_pos hq] at h; exact absurd rfl h
 have hb : ∀ x ∈ bodyF l, x = 46 ∨ isD x = true := by
  unfold readOk at hr
  simp only [Bool.and_eq_true, Bool.or_eq_true, Bool.not_eq_true'] at hr
  obtain ⟨h1, h2⟩ := hr
  obtain ⟨_, _, h1⟩ := runF_ok h1
  unfold wholeF at h1
  unfold pointF restF at h2
  cases hi : idxL 46 (bodyF l) 0 with
  | none =>
    rw [hi] at h1
    exact fun x hx => .inr (h1 x hx)
  | some i =>
    rw [hi] at h1 h2
    have h2 : runF ((bodyF l).drop (i + 1)) 9 = true := h2.resolve_left (by simp)
    obtain ⟨_, _, h2⟩ := runF_ok h2
    intro x hx
    obtain ⟨j, hj, rfl⟩ := List.getElem_of_mem hx
    rcases Nat.lt_trichotomy j i with g | g | g
    · exact .inr (h1 _ (by rw [List.mem_take_iff_getElem]; exact ⟨j, by omega, rfl⟩))
    · subst g
      left
      have : ∀ (l : List UInt8) (k : Nat), idxL 46 l 0 = some k → ∀ (hk : k < l.length), l[k] = 46 := by
       intro l
       induction l with
       | nil => intro k h; cases h
       | cons y ys ih =>
         intro k h hk
         unfold idxL at h
         split at h
         · rename_i hb
           injection h with h; subst h
           have := Nat.eq_of_beq_eq_true hb
           exact UInt8.toNat_inj.1 this
         · rw [idxL_sh] at h
           cases hq : idxL 46 ys 0 with
           | none => rw [hq] at h; cases h
           | some m =>
             rw [hq] at h
             simp only [Option.map_some, Option.some.injEq] at h
             subst h
             simp only [List.length_cons] at hk
             show ys[m] = 46
             exact ih m hq (by omega)
      exact this _ _ hi hj
    · exact .inr (h2 _ (by rw [List.mem_drop_iff_getElem]; exact ⟨j - (i + 1), by omega, by congr 1; omega⟩))
 intro x hx
 by_cases hp : hasP l [45] = true
 · cases l with
   | nil => cases hx
   | cons y ys =>
     have hy : y = 45 := by
      unfold hasP at hp
      simp at hp
      exact hp
     rcases List.mem_cons.1 hx with rfl | hx
     · exact .inl hy
     · have : bodyF (y :: ys) = ys := by unfold bodyF; rw [if_pos hp]; rfl
       rw [this] at hb
       exact .inr (hb x hx)
 · have : bodyF l = l := by unfold bodyF; rw [if_neg hp]
   rw [this] at hb
   exact .inr (hb x hx)
theorem smallF_ok {l : List UInt8} (h : ¬ smallF l < 0) : ∃ k, k < 100 ∧ l = itoaF k ∧ smallF l = (k : Int) := by
 unfold smallF at h ⊢
 cases hf : (List.range 100).find? fun k => l == itoaF k with
 | none => rw [hf] at h; exact absurd (by decide) h
 | some k =>
   have h1 := List.find?_some hf
   have h2 := List.mem_of_find?_eq_some hf
   exact ⟨k, List.mem_range.1 h2, beq_iff_eq.1 h1, rfl⟩
theorem smallF_no {l : List UInt8} (h : smallF l < 0) : ∀ k, k < 100 → l ≠ itoaF k := by
 unfold smallF at h
 cases hf : (List.range 100).find? fun k => l == itoaF k with
 | some k => rw [hf] at h; exact absurd h (by simp only; omega)
 | none =>
   intro k hk e
   have := List.find?_eq_none.1 hf k (List.mem_range.2 hk)
   rw [e] at this; simp at this
theorem cut_split2 (c : UInt8) (l : List UInt8) : splitL c l = if cutQ c l = true then cut1 c l :: splitL c (cut2 c l) else [cut1 c l] := by
 unfold cutQ cut1 cut2
 cases h : idxL c.toNat l 0 with
 | some i => rw [split_some h]; rfl
 | none => rw [split_none h]; rfl
theorem cutQ_mem {c : UInt8} : ∀ {l : List UInt8}, cutQ c l = true ↔ c ∈ l
 | [] => by simp [cutQ, idxL]
 | x :: xs => by
   have ih := cutQ_mem (c := c) (l := xs)
   unfold cutQ idxL
   rw [beq_toNat]
   by_cases h : x = c
   · subst h; simp
   · rw [decide_eq_false h]
     show (idxL c.toNat xs (0 + 1)).isSome = true ↔ _
     rw [idxL_sh, Option.isSome_map]
     unfold cutQ at ih
     rw [ih, List.mem_cons]
     exact ⟨.inr, fun h' => h'.resolve_left (fun e => h e.symm)⟩
theorem readF_D (l : List UInt8) : readF l = .tuple #[(readD l).1.val, .int .i64 (readD l).2] := by
 unfold readF readD
 split
 · rfl
 · split
   · rfl
   · split <;> rfl
end

/- A line of a text: the program's way and the document's are the same, without a program. No condition. -/
section
variable [Lk]
theorem itoaF_isD : ∀ k, k < 100 → ∀ x ∈ itoaF k, isD x = true := by decide +kernel
theorem smallF_digits {l : List UInt8} (h : ¬ smallF l < 0) : ∀ x ∈ l, isD x = true := by
 obtain ⟨k, hk, e, _⟩ := smallF_ok h
 rw [e]; exact itoaF_isD k hk
theorem cut_mem {c x : UInt8} {l : List UInt8} (h : x ∈ l) (hx : x ≠ c) : x ∈ cut1 c l ∨ (cutQ c l = true ∧ x ∈ cut2 c l) := by
 unfold cut1 cut2 cutQ
 cases hi : idxL c.toNat l 0 with
 | none => exact .inl h
 | some i =>
   obtain ⟨j, hj, rfl⟩ := List.getElem_of_mem h
   rcases Nat.lt_trichotomy j i with g | g | g
   · exact .inl (by simp only; rw [List.mem_take_iff_getElem]; exact ⟨j, by omega, rfl⟩)
   · subst g
     have : ∀ (l : List UInt8) (k : Nat), idxL c.toNat l 0 = some k → ∀ (hk : k < l.length), l[k] = c := by
      intro l
      induction l with
      | nil => intro k h; cases h
      | cons y ys ih =>
        intro k h hk
        unfold idxL at h
        rw [beq_toNat] at h
        by_cases g : y = c
        · rw [decide_eq_true g] at h
          injection h with h; subst h
          exact g
        · rw [decide_eq_false g] at h
          have h : idxL c.toNat ys (0 + 1) = some k := h
          rw [idxL_sh] at h
          cases hq : idxL c.toNat ys 0 with
          | none => rw [hq] at h; cases h
          | some m =>
            rw [hq] at h
            simp only [Option.map_some, Option.some.injEq] at h
            subst h
            simp only [List.length_cons] at hk
            show ys[m] = c
            exact ih m hq (by omega)
     exact absurd (this l j hi hj) hx
   · refine .inr ⟨rfl, ?_⟩
     simp only
     rw [List.mem_drop_iff_getElem]; exact ⟨j - (i + 1), by omega, by congr 1; omega⟩
theorem one_tail (a b : List UInt8) (w : Int) :
  (if ((readD b).2 == 0 && !(printF (readD b).1 == b) || lessN b) = true then (Ln.zero, 2) else (⟨smallF a, (readD b).1, w⟩, (readD b).2) : Ln × Int).2 = (if lessN b = true then (Ln.zero, 2) else if (readD b).2 ≠ 0 then (Ln.zero, (readD b).2) else if printF (readD b).1 ≠ b then (Ln.zero, 2) else (⟨smallF a, (readD b).1, w⟩, 0) : Ln × Int).2 ∧
  ((if ((readD b).2 == 0 && !(printF (readD b).1 == b) || lessN b) = true then (Ln.zero, 2) else (⟨smallF a, (readD b).1, w⟩, (readD b).2) : Ln × Int).2 = 0 → (if ((readD b).2 == 0 && !(printF (readD b).1 == b) || lessN b) = true then (Ln.zero, 2) else (⟨smallF a, (readD b).1, w⟩, (readD b).2) : Ln × Int) = (if lessN b = true then (Ln.zero, 2) else if (readD b).2 ≠ 0 then (Ln.zero, (readD b).2) else if printF (readD b).1 ≠ b then (Ln.zero, 2) else (⟨smallF a, (readD b).1, w⟩, 0) : Ln × Int)) := by
 by_cases h1 : lessN b = true
 · simp [h1]
 · by_cases h2 : (readD b).2 = 0
   · by_cases h3 : printF (readD b).1 = b
     · simp [h1, h2, h3]
     · simp [h1, h2, h3]
   · simp [h1, h2]
theorem one_same (t : List UInt8) : (oneF t).2 = (oneR t).2 ∧ ((oneF t).2 = 0 → oneF t = oneR t) := by
 have two : ∀ {p : Ln × Int}, (oneF t).2 = 2 → p.2 = 2 → (oneF t).2 = p.2 ∧ ((oneF t).2 = 0 → oneF t = p) := fun h1 h2 => ⟨h1.trans h2.symm, fun h => absurd (h1.symm.trans h) (by decide)⟩
 have bad : (!cutQ 58 t || (decide (smallF (cut1 58 t) < 0) || (cutQ 64 (cut2 58 t) && decide (smallF (cut2 64 (cut2 58 t)) < 0)))) = true → (oneF t).2 = 2 := by
  intro h; unfold oneF; simp only; rw [if_pos h]
 have bad2 : (readD (cut1 64 (cut2 58 t))).2 = 2 → (oneF t).2 = 2 := by
  intro h
  unfold oneF; simp only
  split
  · rfl
  · split
    · rfl
    · exact h
 cases h58 : cutQ 58 t with
 | false =>
   refine two (bad (by rw [h58]; rfl)) ?_
   unfold oneR
   rw [cut_split2, h58]; rfl
 | true =>
   by_cases h58b : cutQ 58 (cut2 58 t) = true
   · refine two ?_ ?_
     · have hm := cutQ_mem.1 h58b
       rcases cut_mem (c := 64) hm (by decide) with g | ⟨g1, g2⟩
       · apply bad2
         by_cases h : (readD (cut1 64 (cut2 58 t))).2 = 2
         · exact h
         · rcases readD_digits h 58 g with g | g | g
           · exact absurd g (by decide)
           · exact absurd g (by decide)
           · exact absurd g (by decide)
       · apply bad
         rw [g1]
         have : decide (smallF (cut2 64 (cut2 58 t)) < 0) = true := by
          rw [decide_eq_true_iff]
          apply Decidable.byContradiction
          intro h
          exact absurd (smallF_digits h 58 g2) (by decide)
         rw [this]; simp
     · unfold oneR
       rw [cut_split2, h58, if_pos rfl, cut_split2, h58b, if_pos rfl]
       cases hs : splitL 58 (cut2 58 (cut2 58 t)) with
       | nil => exact absurd hs (splitL_ne _ _)
       | cons x r => rfl
   · have hr1 : cut1 58 (cut2 58 t) = cut2 58 t := by
      unfold cut1
      unfold cutQ at h58b
      cases hi : idxL (58 : UInt8).toNat (cut2 58 t) 0 with
      | none => rfl
      | some i => rw [hi] at h58b; exact absurd rfl h58b
     have e1 : splitL 58 t = [cut1 58 t, cut2 58 t] := by
      rw [cut_split2, h58, if_pos rfl, cut_split2 58 (cut2 58 t), if_neg h58b, hr1]
     generalize hR : cut2 58 t = R at *
     generalize hA : cut1 58 t = A at *
     unfold oneR
     rw [e1]
     cases h64 : cutQ 64 R with
     | false =>
       have e2 : splitL 64 R = [cut1 64 R] := by rw [cut_split2, h64]; rfl
       simp only [e2]
       by_cases hA0 : smallF A < 0
       · rw [if_pos hA0]
         exact two (bad (by rw [decide_eq_true hA0]; simp)) rfl
       · rw [if_neg hA0]
         have e3 : oneF t = (if ((readD (cut1 64 R)).2 == 0 && !(printF (readD (cut1 64 R)).1 == cut1 64 R) || lessN (cut1 64 R)) = true then (Ln.zero, 2) else (⟨smallF A, (readD (cut1 64 R)).1, -1⟩, (readD (cut1 64 R)).2)) := by
          unfold oneF
          simp only [hR, hA, h58, h64, decide_eq_false hA0]
          rw [if_neg (by simp)]
          rfl
         rw [e3]
         exact one_tail A (cut1 64 R) (-1)
     | true =>
       by_cases h64b : cutQ 64 (cut2 64 R) = true
       · refine two ?_ ?_
         · apply bad
           have : decide (smallF (cut2 64 R) < 0) = true := by
            rw [decide_eq_true_iff]
            apply Decidable.byContradiction
            intro h
            exact absurd (smallF_digits h 64 (cutQ_mem.1 h64b)) (by decide)
           rw [this, h64]; simp
         · simp only
           rw [cut_split2, h64, if_pos rfl, cut_split2, h64b, if_pos rfl]
           cases hs : splitL 64 (cut2 64 (cut2 64 R)) with
           | nil => exact absurd hs (splitL_ne _ _)
           | cons x r => rfl
       · have hr2 : cut1 64 (cut2 64 R) = cut2 64 R := by
          unfold cut1
          unfold cutQ at h64b
          cases hi : idxL (64 : UInt8).toNat (cut2 64 R) 0 with
          | none => rfl
          | some i => rw [hi] at h64b; exact absurd rfl h64b
         have e2 : splitL 64 R = [cut1 64 R, cut2 64 R] := by rw [cut_split2, h64, if_pos rfl, cut_split2 64 (cut2 64 R), if_neg h64b, hr2]
         simp only [e2]
         by_cases hA0 : smallF A < 0
         · rw [if_pos hA0]
           exact two (bad (by rw [decide_eq_true hA0]; simp)) rfl
         · rw [if_neg hA0]
           by_cases hW0 : smallF (cut2 64 R) < 0
           · rw [if_pos hW0]
             exact two (bad (by rw [decide_eq_true hW0, h64]; simp)) rfl
           · rw [if_neg hW0]
             have e3 : oneF t = (if ((readD (cut1 64 R)).2 == 0 && !(printF (readD (cut1 64 R)).1 == cut1 64 R) || lessN (cut1 64 R)) = true then (Ln.zero, 2) else (⟨smallF A, (readD (cut1 64 R)).1, smallF (cut2 64 R)⟩, (readD (cut1 64 R)).2)) := by
              unfold oneF
              simp only [hR, hA, h58, h64, decide_eq_false hA0, decide_eq_false hW0]
              rw [if_neg (by decide)]
              rfl
             rw [e3]
             exact one_tail A (cut1 64 R) (smallF (cut2 64 R))
end

/- Lines that are right, without a program. No condition. -/
section
variable [Lk]
def mkP (x : Int) (S : Int) : Dc × Int := if x.natAbs < 10 ^ 30 then (⟨decide (x < 0) && !decide (x.natAbs = 0), x.natAbs, S⟩, 0) else (Dc.zero, 3)
def addD (a b : Dc) : Dc × Int := if a.right = false ∨ b.right = false then (Dc.zero, 1) else mkP (up a (max a.scale b.scale) + up b (max a.scale b.scale)) (max a.scale b.scale)
def isWithF (a : Int) : Bool := a == 3 || a == 6
def rightLn (x : Ln) (sc : Int) : Bool := decide (0 ≤ x.acct ∧ x.acct < 16) && (!(signF x.amt == 0) && (x.amt.scale == sc && (if isWithF x.acct = true then decide (0 ≤ x.wth ∧ x.wth < 8) else x.wth == -1)))
def sumL : Dc → List Ln → Dc × Int
 | s, [] => (s, 0)
 | s, x :: r => if (addD s x.amt).2 ≠ 0 then ((addD s x.amt).1, (addD s x.amt).2) else sumL (addD s x.amt).1 r
def zeroD (sc : Int) : Dc := ⟨false, 0, sc⟩
def tailE (s : Dc × Int) : Int := if s.2 ≠ 0 then s.2 else if signF s.1 ≠ 0 then 9 else 0
def rightLF (ls : List Ln) (sc : Int) : Int := if ls = [] ∨ 8 < ls.length then 1 else if (ls.all fun x => rightLn x sc) = false then 1 else tailE (sumL (zeroD sc) ls)
def rightR (ls : List Ln) (sc : Int) : Int := if ls = [] ∨ 8 < ls.length then 1 else if (ls.all fun x => rightLn x sc) = false then 1 else match ls with
 | [] => 1
 | x :: r => tailE (sumL x.amt r)
theorem Dc.right_iff {d : Dc} : d.right = true ↔ d.c < 10 ^ 30 ∧ 0 ≤ d.scale ∧ d.scale ≤ 9 ∧ (d.neg = true → d.c ≠ 0) := by
 unfold Dc.right
 simp only [Bool.and_eq_true, decide_eq_true_eq, Bool.not_eq_true', Bool.and_eq_false_iff, decide_eq_false_iff_not]
 constructor
 · rintro ⟨h1, h2, h3, h4⟩
   refine ⟨h1, h2, h3, fun g e => ?_⟩
   rcases h4 with h4 | h4
   · rw [g] at h4; cases h4
   · exact h4 e
 · rintro ⟨h1, h2, h3, h4⟩
   refine ⟨h1, h2, h3, ?_⟩
   cases hn : d.neg with
   | false => exact .inl rfl
   | true => exact .inr (h4 hn)
theorem sign_rt {d : Dc} (h : signF d ≠ 0) : d.right = true ∧ d.c ≠ 0 := by
 unfold signF at h
 split at h
 · exact absurd rfl h
 · rename_i g
   simp only [not_or] at g
   exact ⟨by simpa using g.1, g.2⟩
def valI (d : Dc) : Int := if d.neg = true then -((d.c : Nat) : Int) else ((d.c : Nat) : Int)
theorem up_self (d : Dc) : up d d.scale = valI d := by
 unfold up valI
 rw [Int.sub_self]; simp
theorem mk_val {d : Dc} (h : d.right = true) : (⟨decide (valI d < 0) && !decide ((valI d).natAbs = 0), (valI d).natAbs, d.scale⟩ : Dc) = d := by
 obtain ⟨h1, h2, h3, h4⟩ := Dc.right_iff.1 h
 obtain ⟨ng, c, sc⟩ := d
 unfold valI
 cases ng with
 | true =>
   have := h4 rfl
   simp at this
   simp [this]; omega
 | false => simp; omega
theorem add_zero {x : Dc} (h : x.right = true) : addD (zeroD x.scale) x = (x, 0) := by
 have h0 : (zeroD x.scale).right = true := by
  obtain ⟨h1, h2, h3, h4⟩ := Dc.right_iff.1 h
  exact Dc.right_iff.2 ⟨by show 0 < 10 ^ 30; decide, h2, h3, fun h => by cases h⟩
 unfold addD
 rw [if_neg (by rw [h, h0]; simp)]
 have hm : max (zeroD x.scale).scale x.scale = x.scale := Int.max_self _
 rw [hm]
 have e0 : up (zeroD x.scale) x.scale = 0 := by unfold up zeroD; simp
 rw [e0, up_self, Int.zero_add]
 unfold mkP
 obtain ⟨h1, _⟩ := Dc.right_iff.1 h
 have : (valI x).natAbs < 10 ^ 30 := by
  unfold valI
  split <;> omega
 rw [if_pos this, mk_val h]
theorem right_same (ls : List Ln) (sc : Int) : rightLF ls sc = rightR ls sc := by
 unfold rightLF rightR
 split
 · rfl
 · rename_i h1
   split
   · rfl
   · rename_i h2
     cases ls with
     | nil => exact absurd (.inl rfl) h1
     | cons x r =>
       simp only
       have hx : rightLn x sc = true := by
        have : ((x :: r).all fun x => rightLn x sc) = true := by simpa using h2
        rw [List.all_cons, Bool.and_eq_true] at this
        exact this.1
       unfold rightLn at hx
       simp only [Bool.and_eq_true, Bool.not_eq_true', beq_eq_false_iff_ne, beq_iff_eq] at hx
       have hr := (sign_rt hx.2.1).1
       rw [sumL, ← hx.2.2.1, add_zero hr]
       simp
/-! ### amounts of one scale -/
theorem mkD_mk {x S : Int} (h : x.natAbs < 10 ^ 30) : mkP x S = (mkD x S, 0) := by
 unfold mkP mkD
 rw [if_pos h]
 congr 2
 by_cases h0 : x < 0
 · rw [decide_eq_true h0, Bool.true_and]
   have : ¬ x.natAbs = 0 := by omega
   rw [decide_eq_false this]; rfl
 · rw [decide_eq_false h0]; rfl
theorem mkD_r {x S : Int} (h : x.natAbs < 10 ^ 30) (h1 : 0 ≤ S) (h2 : S ≤ 9) : (mkD x S).right = true :=
 Dc.right_iff.2 ⟨h, h1, h2, fun h => by have : x < 0 := of_decide_eq_true h; show x.natAbs ≠ 0; omega⟩
theorem val_mkD (x S : Int) : valI (mkD x S) = x := by
 unfold valI mkD
 simp only [decide_eq_true_eq]
 split <;> omega
theorem addD_mkD {x y S : Int} (hx : x.natAbs < 10 ^ 29) (hy : y.natAbs < 10 ^ 29) (h1 : 0 ≤ S) (h2 : S ≤ 9) : addD (mkD x S) (mkD y S) = (mkD (x + y) S, 0) := by
 unfold addD
 have a1 : x.natAbs < 10 ^ 30 := Nat.lt_trans hx (by decide)
 have a2 : y.natAbs < 10 ^ 30 := Nat.lt_trans hy (by decide)
 rw [if_neg (by rw [mkD_r a1 h1 h2, mkD_r a2 h1 h2]; simp)]
 have hm : max (mkD x S).scale (mkD y S).scale = S := Int.max_self _
 rw [hm]
 have e1 : up (mkD x S) S = x := by have := up_self (mkD x S); rw [val_mkD] at this; exact this
 have e2 : up (mkD y S) S = y := by have := up_self (mkD y S); rw [val_mkD] at this; exact this
 rw [e1, e2]
 exact mkD_mk (by
  have : (x + y).natAbs ≤ x.natAbs + y.natAbs := by omega
  omega)
theorem sign_mk {x S : Int} (h : x.natAbs < 10 ^ 30) (h1 : 0 ≤ S) (h2 : S ≤ 9) : (signF (mkD x S) = 0) ↔ x = 0 := by
 unfold signF
 rw [mkD_r h h1 h2]
 show (if true = false ∨ x.natAbs = 0 then (0 : Int) else if decide (x < 0) = true then -1 else 1) = 0 ↔ x = 0
 by_cases h0 : x = 0
 · simp [h0]
 · have : ¬ (true = false ∨ x.natAbs = 0) := by simp; exact h0
   rw [if_neg this]
   constructor
   · intro h; split at h <;> exact absurd h (by decide)
   · intro h; exact absurd h h0
def sumZ (ls : List Ln) : Int := (ls.map fun x => valI x.amt).sum
theorem addF_D (a b : Dc) : addF a b = .tuple #[(addD a b).1.val, .int .i64 (addD a b).2] := by
 unfold addF addD
 split
 · rfl
 · unfold mkI dmade mkP
   split <;> rfl
end

/- Raw numbers as lines that come to nothing, without a program. No condition. -/
section
variable [Lk]
/-! ### raw numbers as lines -/
def amtY (b : Int) : Int := if b % 2000001 - 1000000 = 0 then 1 else b % 2000001 - 1000000
def lnOf (a b sc ents : Int) : Ln := ⟨a % 16, mkD (amtY b) sc, if isWithF (a % 16) = true then (Int.tdiv a 16) % (max 1 ents) else -1⟩
def linesL (sc ents : Int) : Nat → List Int → List Ln
 | n + 1, a :: b :: r => lnOf a b sc ents :: linesL sc ents n r
 | _, _ => []
def lines1 (out : List Ln) (sc : Int) : List Ln :=
 if sumZ out ≠ 0 ∨ out = [] then (if out = [] then [⟨8, mkD (-5) sc, -1⟩, ⟨0, mkD 5 sc, -1⟩] else out ++ [⟨0, mkD (-(sumZ out)) sc, -1⟩]) else out
structure GoodLn (sc ents : Int) (x : Ln) : Prop where
 acct : 0 ≤ x.acct ∧ x.acct < 16
 amt : ∃ y : Int, y ≠ 0 ∧ y.natAbs ≤ 6000000 ∧ x.amt = mkD y sc
 wth : if isWithF x.acct = true then 0 ≤ x.wth ∧ x.wth < max 1 ents else x.wth = -1
theorem amtY_b (b : Int) : amtY b ≠ 0 ∧ (amtY b).natAbs ≤ 1000000 := by
 unfold amtY
 have h1 := Int.emod_nonneg b (show (2000001 : Int) ≠ 0 by decide)
 have h2 := Int.emod_lt_of_pos b (show (0 : Int) < 2000001 by decide)
 split
 · exact ⟨by decide, by decide⟩
 · rename_i h; exact ⟨h, by omega⟩
theorem lnOf_good (a b sc ents : Int) : GoodLn sc ents (lnOf a b sc ents) := by
 have h1 := Int.emod_nonneg a (show (16 : Int) ≠ 0 by decide)
 have h2 := Int.emod_lt_of_pos a (show (0 : Int) < 16 by decide)
 have hy := amtY_b b
 refine ⟨⟨h1, h2⟩, ⟨amtY b, hy.1, by omega, rfl⟩, ?_⟩
 show if isWithF (a % 16) = true then 0 ≤ (if isWithF (a % 16) = true then (Int.tdiv a 16) % (max 1 ents) else -1) ∧ (if isWithF (a % 16) = true then (Int.tdiv a 16) % (max 1 ents) else -1) < max 1 ents else (if isWithF (a % 16) = true then (Int.tdiv a 16) % (max 1 ents) else -1) = -1
 by_cases h : isWithF (a % 16) = true
 · rw [if_pos h, if_pos h]
   exact ⟨Int.emod_nonneg _ (by omega), Int.emod_lt_of_pos _ (by omega)⟩
 · rw [if_neg h, if_neg h]
theorem linesL_len (sc ents : Int) : ∀ (n : Nat) (l : List Int), (linesL sc ents n l).length ≤ n
 | 0, l => by unfold linesL; exact Nat.le_refl _
 | n + 1, [] => by simp [linesL]
 | n + 1, [a] => by simp [linesL]
 | n + 1, a :: b :: r => by
   have := linesL_len sc ents n r
   simp only [linesL, List.length_cons]; omega
theorem linesL_good (sc ents : Int) : ∀ (n : Nat) (l : List Int), ∀ x ∈ linesL sc ents n l, (∃ a b, x = lnOf a b sc ents)
 | 0, l => by intro x hx; simp [linesL] at hx
 | n + 1, [] => by intro x hx; simp [linesL] at hx
 | n + 1, [a] => by intro x hx; simp [linesL] at hx
 | n + 1, a :: b :: r => by
   intro x hx
   simp only [linesL, List.mem_cons] at hx
   rcases hx with rfl | hx
   · exact ⟨a, b, rfl⟩
   · exact linesL_good sc ents n r x hx
theorem sumZ_nil : sumZ [] = 0 := rfl
theorem sumZ_cons (x : Ln) (r : List Ln) : sumZ (x :: r) = valI x.amt + sumZ r := by unfold sumZ; rw [List.map_cons, List.sum_cons]
theorem sumZ_app (a b : List Ln) : sumZ (a ++ b) = sumZ a + sumZ b := by unfold sumZ; rw [List.map_append, List.sum_append]
theorem sumZ_b {M : Nat} : ∀ (ls : List Ln), (∀ x ∈ ls, (valI x.amt).natAbs ≤ M) → (sumZ ls).natAbs ≤ ls.length * M
 | [], _ => by simp [sumZ]
 | x :: r, h => by
   have h1 := h x (by simp)
   have h2 := sumZ_b r (fun y hy => h y (by simp [hy]))
   rw [sumZ_cons, List.length_cons, Nat.add_mul, Nat.one_mul]
   omega
theorem linesL_sum (sc ents : Int) {n : Nat} (hn : n ≤ 6) (l : List Int) : (sumZ (linesL sc ents n l)).natAbs ≤ 6000000 := by
 have h := sumZ_b (M := 1000000) (linesL sc ents n l) fun x hx => by
  obtain ⟨a, b, rfl⟩ := linesL_good sc ents n l x hx
  show (valI (mkD (amtY b) sc)).natAbs ≤ _
  rw [val_mkD]; exact (amtY_b b).2
 have := linesL_len sc ents n l
 have : (linesL sc ents n l).length * 1000000 ≤ 6 * 1000000 := Nat.mul_le_mul_right _ (by omega)
 omega
structure Even (sc ents : Int) (ls : List Ln) : Prop where
 good : ∀ x ∈ ls, GoodLn sc ents x
 sum : sumZ ls = 0
 len : 1 ≤ ls.length ∧ ls.length ≤ 7
theorem lines_even (sc ents : Int) (l : List Int) : Even sc ents (lines1 (linesL sc ents 6 l) sc) := by
 have hlen := linesL_len sc ents 6 l
 have hsum := linesL_sum sc ents (Nat.le_refl 6) l
 have hgood : ∀ x ∈ linesL sc ents 6 l, GoodLn sc ents x := fun x hx => by
  obtain ⟨a, b, rfl⟩ := linesL_good sc ents 6 l x hx
  exact lnOf_good a b sc ents
 generalize linesL sc ents 6 l = out at *
 unfold lines1
 by_cases h0 : out = []
 · rw [if_pos (.inr h0), if_pos h0]
   refine ⟨fun x hx => ?_, by rw [sumZ_cons, sumZ_cons, val_mkD, val_mkD]; rfl, by simp, by simp⟩
   simp only [List.mem_cons, List.not_mem_nil, or_false] at hx
   rcases hx with rfl | rfl
   · exact ⟨⟨by simp, by simp⟩, ⟨-5, by decide, by decide, rfl⟩, rfl⟩
   · exact ⟨⟨by simp, by simp⟩, ⟨5, by decide, by decide, rfl⟩, rfl⟩
 · have hl : 1 ≤ out.length := List.length_pos_iff.2 h0
   by_cases hs : sumZ out = 0
   · rw [if_neg (by simp [h0, hs])]
     exact ⟨hgood, hs, hl, by omega⟩
   · rw [if_pos (.inl hs), if_neg h0]
     refine ⟨fun x hx => ?_, by rw [sumZ_app, sumZ_cons, val_mkD, sumZ_nil]; omega, by simp, by simp; omega⟩
     rcases List.mem_append.1 hx with hx | hx
     · exact hgood x hx
     · simp only [List.mem_cons, List.not_mem_nil, or_false] at hx
       subst hx
       exact ⟨⟨by simp, by simp⟩, ⟨-(sumZ out), by omega, by omega, rfl⟩, rfl⟩
/-! ### turned about -/
def turnL (x : Ln) : Ln := ⟨x.acct, negF x.amt, x.wth⟩
theorem neg_mk {x S : Int} (h : x.natAbs < 10 ^ 30) (h1 : 0 ≤ S) (h2 : S ≤ 9) : negF (mkD x S) = mkD (-x) S := by
 unfold negF
 rw [if_pos (mkD_r h h1 h2)]
 unfold mkD
 simp only [Int.natAbs_neg]
 congr 1
 by_cases h0 : x < 0
 · rw [decide_eq_true h0]
   have : ¬ -x < 0 := by omega
   rw [decide_eq_false this]; rfl
 · rw [decide_eq_false h0]
   by_cases h3 : x = 0
   · subst h3; rfl
   · have h4 : ¬ x.natAbs = 0 := by omega
     have h5 : -x < 0 := by omega
     rw [decide_eq_false h4, decide_eq_true h5]; rfl
theorem GoodLn.turn {sc ents : Int} {x : Ln} (h : GoodLn sc ents x) (h1 : 0 ≤ sc) (h2 : sc ≤ 9) : GoodLn sc ents (turnL x) ∧ valI (turnL x).amt = -(valI x.amt) ∧ turnL (turnL x) = x := by
 obtain ⟨y, g1, g2, g3⟩ := h.amt
 have e : (turnL x).amt = mkD (-y) sc := by show negF x.amt = _; rw [g3]; exact neg_mk (by omega) h1 h2
 refine ⟨⟨h.acct, ⟨-y, by omega, by omega, e⟩, h.wth⟩, by rw [e, g3, val_mkD, val_mkD], ?_⟩
 obtain ⟨a, d, w⟩ := x
 have g3 : d = mkD y sc := g3
 subst g3
 show Ln.mk a (negF (negF (mkD y sc))) w = _
 rw [neg_mk (by omega) h1 h2, neg_mk (by omega) h1 h2, Int.neg_neg]
theorem Even.turn {sc ents : Int} {ls : List Ln} (h : Even sc ents ls) (h1 : 0 ≤ sc) (h2 : sc ≤ 9) : Even sc ents (ls.map turnL) ∧ (ls.map turnL).map turnL = ls := by
 refine ⟨⟨fun x hx => ?_, ?_, by simpa using h.len⟩, ?_⟩
 · obtain ⟨y, hy, rfl⟩ := List.mem_map.1 hx
   exact ((h.good y hy).turn h1 h2).1
 · have : ∀ l : List Ln, (∀ x ∈ l, GoodLn sc ents x) → sumZ (l.map turnL) = -(sumZ l) := by
    intro l
    induction l with
    | nil => intro _; rfl
    | cons x r ih =>
      intro hg
      rw [List.map_cons, sumZ_cons, sumZ_cons, ih (fun y hy => hg y (by simp [hy])), ((hg x (by simp)).turn h1 h2).2.1]; omega
   rw [this ls h.good, h.sum]; rfl
 · rw [List.map_map]
   have : ∀ x ∈ ls, (turnL ∘ turnL) x = x := fun x hx => ((h.good x hx).turn h1 h2).2.2
   calc ls.map (turnL ∘ turnL) = ls.map id := List.map_congr_left this
    _ = ls := List.map_id _
end

/- Lines of an entry as text, without a program: what is printed is read the same. No condition. -/
section
variable [Lk]
theorem smallF_itoa : ∀ k, k < 100 → smallF (itoaF k) = (k : Int) := by decide +kernel
theorem print_nil {d : Dc} : printF d = [] ↔ d.right = false := by
 constructor
 · intro h
   cases hr : d.right with
   | false => rfl
   | true =>
     obtain ⟨W, R, pt, h0, _, _, _, _, _, _, _, e⟩ := print_parts hr
     rw [e] at h
     unfold txt at h
     simp at h
     exact absurd h.2.1 h0
 · intro h
   unfold printF
   rw [if_pos h]
def lineT (x : Ln) : List UInt8 := itoaF x.acct.toNat ++ 58 :: (printF x.amt ++ (if 0 ≤ x.wth then 64 :: itoaF x.wth.toNat else []))
def badLn (x : Ln) : Bool := decide (x.acct < 0) || (decide (x.wth < -1) || printF x.amt == [])
def printL (ls : List Ln) : List UInt8 := if ls.any badLn = true then [] else joinL 44 (ls.map lineT)
end

/- strings.Split at a byte, walked. No condition. -/
section
variable [Lk]
theorem SG : SlT Tryz.prog 95 9 1 16 (.string ⟨#[]⟩) := ⟨Tryz.underlying95, ⟨_, rfl, rfl, rfl, rfl⟩, rfl, rfl, by decide, by decide⟩
theorem cnt_ext (s : St) (l : List UInt8) (c : UInt8) : Cw Tryz.prog 144 [sv l, .int .u8 ((c.toNat : Nat) : Int)] s fun r s' => s' = s ∧ r = .int .i64 ((cntL c.toNat l 0 : Nat) : Int) := by
 refine ⟨⟨_, s, ⟨rfl, rfl⟩, .inr (.inl ⟨rfl, _, Tryz.func144, rfl, ?_⟩)⟩⟩
 have hc : Nat.blt c.toNat 256 = true := blt_of c.toNat_lt
 have : evExt "internal/bytealg.CountString" [sv l, .int .u8 ((c.toNat : Nat) : Int)] = some (.int .i64 ((cntL c.toNat l 0 : Nat) : Int)) := by
  unfold evExt
  rw [show ("internal/bytealg.CountString" == "internal/bytealg.IndexByteString") = false from by decide +kernel, show ("internal/bytealg.CountString" == "internal/bytealg.CountString") = true from rfl]
  show (match Nat.blt c.toNat 256 with
   | true => some (Value.int .i64 (.ofNat (cntL c.toNat (bs ⟨l.toArray⟩) 0)))
   | false => none) = _
  rw [hc, bs_mk]
  rfl
 exact this
theorem count_spec (s : St) (l : List UInt8) (c : UInt8) : Cw Tryz.prog 127 [sv l, sv [c]] s fun r s' => s' = s ∧ r = .int .i64 ((cntL c.toNat l 0 : Nat) : Int) := by
 refine Cw.enterS Tryz.func127 rfl rfl ?_
 refine Sm.seqW ?_
 conv => whnf
 refine Sm.live [0, 1] ?_
 conv => whnf
 refine Sm.seq ?_
 refine Sm.seqW ?_
 conv => whnf
 refine Sm.ofW ?_
 conv => whnf
 repeat ((first | refine Br.y1 ?_ | refine Br.n1 ?_); conv => whnf)
 refine Sm.seq ?_
 refine Sm.seqW ?_
 conv => whnf
 refine Sm.ofW ?_
 conv => whnf
 repeat ((first | refine Br.y1 ?_ | refine Br.n1 ?_); conv => whnf)
 refine Om.of _ (str_index Tryz.underlying9 (l := [c]) (i := 0) (by simp) .i64) ?_
 conv => whnf
 refine (cnt_ext _ l c).mono ?_
 rintro _ s1 ⟨h1, rfl⟩
 obtain rfl := h1.symm
 conv => whnf
 exact ⟨rfl, rfl⟩
theorem sindex_spec (s : St) (l : List UInt8) (c : UInt8) : Cw Tryz.prog 121 [sv l, sv [c]] s fun r s' => s' = s ∧ r = .int .i64 (ixI (idxL c.toNat l 0)) := by
 refine Cw.enterS Tryz.func121 rfl rfl ?_
 refine Sm.seqW ?_
 conv => whnf
 refine Sm.seqW ?_
 conv => whnf
 refine (index1_spec _ l c).mono ?_
 rintro _ s1 ⟨h1, rfl⟩
 obtain rfl := h1.symm
 conv => whnf
 refine Sm.ofW ?_
 conv => whnf
 exact ⟨rfl, rfl⟩
theorem map_set_at {α β : Type} (f : α → β) (a : List α) (x y : α) (b : List β) : (a.map f ++ f x :: b).set a.length (f y) = (a ++ [y]).map f ++ b := by
 rw [List.set_append_right _ _ (by simp), List.length_map, Nat.sub_self]
 simp
theorem Hp.blkO {X : Nat → Prop} {s0 s : St} {R F G : List At} {k b e n : Nat} {C : List Value} (h : Hp X s0 R F s) (r : Rm (blkA k b C e) F G) (hl : C.length = n * e) : Hp X s0 R (onA (some k) (.slice (some ⟨b, 0, none⟩) n n) e n C :: G) s :=
 h.as r (fun hb => ⟨.inr ⟨k, rfl, b, rfl, hb, hl⟩⟩) fun j hj => by (injection hj with hj; exact hj.symm)
theorem gsplit_spec {z : St} (wf : WF z) (l : List UInt8) (hl : l.length ≤ 10000000000000) (c : UInt8) :
  Cw Tryz.prog 100 [sv l, sv [c], .int .i64 0, .int .i64 (-1)] z fun r s' => K0 z s' ∧ OwnN z.next s' r 1 (splitL c l).length ((splitL c l).map sv) := by
 have hp : Hp (fun _ => False) z [] [] z := Hp.start _ wf _ (by simp)
 refine Cw.enterS Tryz.func100 rfl rfl ?_
 refine Sm.seqW ?_
 conv => whnf
 refine Sm.live [0, 1, 2, 3] ?_
 conv => whnf
 refine Sm.seq ?_
 refine Sm.seqW ?_
 conv => whnf
 refine Sm.ofW ?_
 conv => whnf
 repeat ((first | refine Br.y1 ?_ | refine Br.n1 ?_); conv => whnf)
 refine Sm.seq ?_
 refine Sm.seqW ?_
 conv => whnf
 refine Om.of _ (sv_eq [c] []) ?_
 conv => whnf
 refine Sm.ofW ?_
 conv => whnf
 repeat ((first | refine Br.y1 ?_ | refine Br.n1 ?_); conv => whnf)
 refine Sm.seq ?_
 refine Sm.seqW ?_
 conv => whnf
 refine Sm.ofW ?_
 conv => whnf
 repeat ((first | refine Br.y1 ?_ | refine Br.n1 ?_); conv => whnf)
 refine (count_spec _ l c).mono ?_
 rintro _ s1 ⟨h1, rfl⟩
 obtain rfl := h1.symm
 conv => whnf
 have hcl := cntL_le c.toNat l
 obtain ⟨N, hN⟩ : ∃ N, cntL c.toNat l 0 = N := ⟨_, rfl⟩
 have hsl : (splitL c l).length = N + 1 := by rw [split_cnt, hN]
 rw [hN] at hcl ⊢
 have e1 : IntKind.i64.wrap ((N : Int) + 1) = ((N + 1 : Nat) : Int) := by rw [wi64 (by omega) (by omega)]; omega
 rw [e1]
 refine Sm.seqW ?_
 conv => whnf
 refine Sm.live [0, 1, 2, 3] ?_
 conv => whnf
 have e2 : IntKind.i64.wrap (((bs ⟨l.toArray⟩).length : Int) + 1) = ((l.length + 1 : Nat) : Int) := by
  show IntKind.i64.wrap ((l.length : Int) + 1) = _
  rw [wi64 (by omega) (by omega)]; omega
 refine Sm.seqW ?_
 conv => whnf
 rw [e2]
 have hlt : ¬ (((l.length + 1 : Nat) : Int) < ((N + 1 : Nat) : Int)) := by omega
 simp only [hlt, if_false]
 refine hp.mks SG rfl (N + 1) rfl rfl (by omega) ?_
 clear hp
 intro b s hp _
 conv => whnf
 refine Sm.live [0, 1, 2, 3, 9] ?_
 conv => whnf
 have e3 : IntKind.i64.wrap (((N + 1 : Nat) : Int) - 1) = (N : Int) := by rw [wi64 (by omega) (by omega)]; omega
 refine Sm.seqW ?_
 conv => whnf
 rw [e3]
 refine Sm.live [0, 1, 2, 3, 9] ?_
 conv => whnf
 refine Sm.seqW ?_
 conv => whnf
 refine Sm.live [0, 1, 2, 3, 9, 10] ?_
 conv => whnf
 refine Sm.seq ?_
 refine Sm.block ?_
 refine Sm.loop ?_
 refine Lp.ofS (α := List (List UInt8) × List UInt8) (fun x => [(0, sv x.2), (1, sv [c]), (2, .int .i64 0), (3, .int .i64 (N : Int)), (9, .slice (some ⟨b, 0, none⟩) (N + 1) (N + 1)), (10, .int .i64 (x.1.length : Int))])
  (fun x s' => splitL c l = x.1 ++ splitL c x.2 ∧ x.2.length ≤ l.length ∧ Hp (fun _ => False) z [] [blkA b b (x.1.map sv ++ List.replicate (N + 1 - x.1.length) (sv [])) 1] s') (fun x => N + 1 - x.1.length) ?_ ([], l) (subK_ok (by refine ⟨rfl, rfl, rfl, rfl, rfl, rfl, trivial⟩)) ⟨rfl, Nat.le_refl _, hp.pik (by repeat (first | exact Pik.nil | exact Pik.refl _ | exact Rm.here | apply Rm.there | apply Pik.cons | apply Pik.skip))⟩
 clear hp
 rintro ⟨done, r⟩ s ⟨hd, hr, hp⟩
 simp only at hd hr hp
 have hlen : N + 1 = done.length + (splitL c r).length := by rw [← hsl, hd, List.length_append]
 have hpos : 0 < (splitL c r).length := List.length_pos_iff.2 (splitL_ne c r)
 obtain ⟨m, hm⟩ : ∃ m, N + 1 - done.length = m + 1 := ⟨N - done.length, by omega⟩
 have hrep : List.replicate (N + 1 - done.length) (sv []) = sv [] :: List.replicate m (sv []) := by rw [hm, List.replicate_succ]
 have hput : ∀ w : List UInt8, (done.map sv ++ List.replicate (N + 1 - done.length) (sv [])).set done.length (sv w) = (done ++ [w]).map sv ++ List.replicate m (sv []) := fun w => by
  rw [hrep]; exact map_set_at sv done [] w _
 have hix := idx_at (P := Tryz.prog) SG (b := b) (off := 0) (c := N + 1) (n := N + 1) .i64 (show done.length < N + 1 by omega)
 rw [Nat.zero_add, Nat.mul_one] at hix
 refine Sm.seq ?_
 refine Sm.seqW ?_
 conv => whnf
 refine Sm.live [0, 1, 2, 3, 9, 10, 36] ?_
 conv => whnf
 refine Sm.ofW ?_
 conv => whnf
 refine Br.mk (fun hc => ?_) (fun hc => ?_)
 · have hc : done.length < N := by have : (done.length : Int) < (N : Int) := of_decide_eq_true hc; omega
   conv => whnf
   refine Sm.block ?_
   refine Sm.seqW ?_
   conv => whnf
   refine (sindex_spec _ r c).mono ?_
   rintro _ s1 ⟨h1, rfl⟩
   obtain rfl := h1.symm
   conv => whnf
   refine Sm.live [0, 1, 2, 3, 9, 10, 11] ?_
   conv => whnf
   refine Sm.seq ?_
   refine Sm.seqW ?_
   conv => whnf
   cases hi : idxL c.toNat r 0 with
   | none =>
     rw [split_none hi] at hlen
     simp only [List.length_singleton] at hlen
     omega
   | some i =>
     have hik : i < r.length := by
      obtain ⟨k, hk1, hk2, _⟩ := idxL_some hi
      omega
     have hs := split_some hi
     have e4 : IntKind.i64.wrap (ixI (some i) + 0) = (i : Int) := by show IntKind.i64.wrap ((i : Int) + 0) = _; rw [wi64 (by omega) (by omega)]; omega
     have e5 : IntKind.i64.wrap (ixI (some i) + ((bs ⟨#[c]⟩).length : Int)) = ((i + 1 : Nat) : Int) := by show IntKind.i64.wrap ((i : Int) + 1) = _; rw [wi64 (by omega) (by omega)]; omega
     have e6 : IntKind.i64.wrap ((done.length : Int) + 1) = (((done ++ [r.take i]).length : Nat) : Int) := by rw [wi64 (by omega) (by omega)]; simp
     refine Sm.ofW ?_
     conv => whnf
     refine Br.no (decide_eq_false (by show ¬ (i : Int) < 0; omega)) ?_
     conv => whnf
     refine Sm.seqW ?_
     conv => whnf
     rw [e4]
     refine Om.of _ (str_take Tryz.underlying9 (l := r) (j := i) .i64 (by omega)) ?_
     conv => whnf
     refine Om.of _ (hix) ?_
     conv => whnf
     refine hp.store .d (by simp; omega) rfl rfl rfl rfl ?_
     clear hp
     intro s hp _
     rw [hput] at hp
     conv => whnf
     refine Sm.live [0, 1, 2, 3, 9, 10, 11] ?_
     conv => whnf
     refine Sm.seqW ?_
     conv => whnf
     rw [e5]
     refine Om.of _ (str_drop Tryz.underlying9 (l := r) (j := i + 1) .i64 (by omega)) ?_
     conv => whnf
     refine Sm.live [0, 1, 2, 3, 9, 10] ?_
     conv => whnf
     refine Sm.ofW ?_
     conv => whnf
     exact ⟨(done ++ [r.take i], r.drop (i + 1)), by (show N + 1 - (done ++ [r.take i]).length < N + 1 - done.length); simp; omega, subK_ok (by refine ⟨rfl, rfl, rfl, rfl, rfl, congrArg (fun x => some (Value.int .i64 x)) e6, trivial⟩), by (rw [hd, hs]; simp), by (show (r.drop (i + 1)).length ≤ l.length); simp; omega, by
      have : N + 1 - (done ++ [r.take i]).length = m := by simp; omega
      rw [this]; exact hp.pik (by repeat (first | exact Pik.nil | exact Pik.refl _ | exact Rm.here | apply Rm.there | apply Pik.cons | apply Pik.skip))⟩
 · have hc : ¬ done.length < N := by have : ¬ (done.length : Int) < (N : Int) := of_decide_eq_false hc; omega
   have h1 : (splitL c r).length = 1 := by omega
   have hdn : done.length = N := by omega
   have hr1 : splitL c r = [r] := by
    cases hi : idxL c.toNat r 0 with
    | none => exact split_none hi
    | some i =>
      rw [split_some hi] at h1
      simp only [List.length_cons] at h1
      exact absurd (List.length_eq_zero_iff.1 (show (splitL c (r.drop (i + 1))).length = 0 by omega)) (splitL_ne _ _)
   obtain rfl : m = 0 := by omega
   have e6 : IntKind.i64.wrap ((done.length : Int) + 1) = ((N + 1 : Nat) : Int) := by rw [wi64 (by omega) (by omega)]; omega
   conv => whnf
   refine Sm.seqW ?_
   conv => whnf
   refine Om.of _ (hix) ?_
   conv => whnf
   refine hp.store .d (by simp; omega) rfl rfl rfl rfl ?_
   clear hp
   intro s hp _
   rw [hput] at hp
   have hlC : ((done ++ [r]).map sv ++ List.replicate 0 (sv [])) = (splitL c l).map sv := by rw [hd, hr1]; simp
   rw [hlC] at hp
   have hsub : Sl s (some b) (.slice (some ⟨b, 0, none⟩) (N + 1) (N + 1)) 1 (N + 1) ((splitL c l).map sv) := hp.blkSl .d (by rw [List.length_map, hsl]; omega)
   conv => whnf
   refine Sm.live [9, 10] ?_
   conv => whnf
   refine Sm.seqW ?_
   conv => whnf
   rw [e6]
   have hcut : evSliceMem Tryz.prog 95 (.slice (some ⟨b, 0, none⟩) (N + 1) (N + 1)) none (some (.int .i64 ((N + 1 : Nat) : Int))) none s = some (.slice (some ⟨b, 0, none⟩) (N + 1) (N + 1)) := by
    have hb : bnds (N + 1) (N + 1) none (some (.int .i64 ((N + 1 : Nat) : Int))) none = some (0, N + 1, N + 1) := by
     unfold bnds
     simp only [bnd_nat (Nat.le_refl (N + 1))]
    obtain ⟨i, hi1, hi2, hi3, hi4⟩ := SG.hi
    have hbk : Blk s b b ((splitL c l).map sv) 1 := hp.blk .d
    unfold evSliceMem
    rw [SG.hu]
    simp only [hi1, hbk.esz, hi2, Nat.beq_refl, hb]
    simp
   refine Om.of _ (hcut) ?_
   conv => whnf
   refine Sm.live [8] ?_
   conv => whnf
   refine Sm.ofW ?_
   conv => whnf
   refine ⟨hp.fr, ?_⟩
   have h9 := hp.blkO (n := N + 1) .d (by rw [List.length_map, hsl]; omega)
   rw [hsl]
   exact h9.out .d
theorem split_spec {z : St} (wf : WF z) (l : List UInt8) (hl : l.length ≤ 10000000000000) (c : UInt8) :
  Cw Tryz.prog 58 [sv l, sv [c]] z fun r s' => K0 z s' ∧ OwnN z.next s' r 1 (splitL c l).length ((splitL c l).map sv) := by
 refine Cw.enterS Tryz.func58 rfl rfl ?_
 refine Sm.seqW ?_
 conv => whnf
 refine Sm.seqW ?_
 conv => whnf
 refine (gsplit_spec wf l hl c).mono ?_
 rintro r s' ⟨h1, h2⟩
 obtain ⟨a, n, rfl⟩ := h2.shape
 conv => whnf
 refine Sm.ofW ?_
 conv => whnf
 exact ⟨h1, h2⟩
end

/- Buffers with room: what is written where there is room, and the text that comes of it. No condition. -/
section
variable [Lk]
section
variable {X : Nat → Prop} {s0 s s' : St} {R F G H : List At} {P : Program} {t : TypeId} {b off e : Nat} {C : List Value} {v : Value} {i : TypeInfo}
theorem Hp.appInT {K : Value × St → Prop} (h : Hp X s0 R F s) {et u by_ n c ty : Nat} {z : Value} (T : SlT P t et 1 by_ z) (hd : P.underlying u = some .string) (r : Rm (tyA b C 1 ty) F G) (x : List UInt8) (hc : n + x.length ≤ c) (hC : C.length = c)
  (hk : ∀ s', Hp X s0 R (tyA b (putAt C n (byteVals x)) 1 ty :: G) s' → K (.slice (some ⟨b, 0, none⟩) (n + x.length) c, s')) : Om (evAp P t u (.slice (some ⟨b, 0, none⟩) n c) (sv x) s) K := by
 obtain ⟨i, hi1, hi2, hi3, hi4⟩ := T.hi
 have hb : Bty s b C 1 ty := h.okF _ r.sub.1
 have hx : elemsOf s 1 (sv x) = some (x.length, byteVals x) := elems_str s _
 subst hi3
 by_cases hm : x = []
 · subst hm
   rw [show byteVals [] = [] from rfl, putAt_nil] at hk
   refine .of (.slice (some ⟨b, 0, none⟩) n c, s) ?_ (hk s (h.upd r (Y := fun _ => False) (.refl h.wf) (fun _ h => h.elim) hb fun j hj => .inl hj))
   simp only [List.length_nil] at hc
   simp only [evAp, evAppend, T.hu, hd, isIntDesc, hi1, hi4, T.hz, T.hzs, hi2, Nat.beq_refl, blt_of T.sz0, blt_of T.by0, hx, byteVals_one, List.length_nil, Nat.ble_eq_true_of_le (show n + 0 ≤ c by omega)]
 · have hm2 : x.length ≠ 0 := by simpa using hm
   obtain ⟨s', g1, g2, g3, g4⟩ := write_kp (off := n) (vs := byteVals x) h.wf hb.blk (by rw [byteVals_length]; omega)
   have g5 := write_blt hb.blt hb.blk g1
   refine .of (.slice (some ⟨b, 0, none⟩) (n + x.length) c, s') ?_ (hk s' (h.upd r g2 (fun j hj => .inl hj) ⟨g3, g5⟩ (fun j hj => .inl hj)))
   simp only [evAp, evAppend, T.hu, hd, isIntDesc, hi1, hi4, T.hz, T.hzs, hi2, Nat.beq_refl, blt_of T.sz0, blt_of T.by0, hx, byteVals_one, Nat.ble_eq_true_of_le hc, beq_no hm2, hb.blk.esz, Nat.zero_add, Nat.mul_one, g1]
end
theorem unsafe_strC {P : Program} {pt it e8 : TypeId} {i : TypeInfo} (hp : P.underlying pt = some (.pointer e8)) (hi : P.info? e8 = some i) (h1 : i.size = 1) {s : St} (wf : WF s) {k g : Nat} {C : List Value} {l : List UInt8} (hb : Blk s k g C 1) (ht : Blt s k C 1 e8) (hC : C.take l.length = byteVals l) (h0 : l ≠ []) (hl : l.length ≤ 9223372036854775807) :
  ∃ s', evUStr P [pt, it] (.pointer (some ⟨g, 0, none⟩)) (.int .i64 (l.length : Int)) s = some (.string ⟨l.toArray⟩, s') ∧ Kp (fun j => j = k) s s' := by
 obtain ⟨fl, g1, g2, g3, g4⟩ := ht.head hb
 obtain ⟨s', hs, hk, _⟩ := seal_kp wf hb
 refine ⟨s', ?_, hk⟩
 obtain ⟨m, hm⟩ : ∃ m, l.length = m + 1 := ⟨l.length - 1, by have : l.length ≠ 0 := by simpa using h0
                                                             omega⟩
 have hlen : l.length ≤ C.length := by
  have := congrArg List.length hC
  rw [List.length_take, byteVals_length] at this; omega
 have hsl : sl C 0 (m + 1) = some (byteVals l) := by
  unfold sl
  rw [← hm]
  have e : ((List.drop 0 C).take l.length) = byteVals l := hC
  simp only [e]
  rw [byteVals_length, Nat.beq_refl]
 show (match P.underlying pt, Value.pointer (some ⟨g, 0, none⟩), Value.int .i64 (.ofNat l.length) with
  | some (.pointer _), .pointer none, .int .i64 (.ofNat 0) => some (Value.string ⟨#[]⟩, s)
  | some (.pointer _), .pointer (some _), .int .i64 (.ofNat 0) => some (Value.string ⟨#[]⟩, s)
  | some (.pointer e), .pointer (some a), .int .i64 (.ofNat (m + 1)) => match P.info? e, s.heap.get a.block, s.tys.get a.block, s.rd a.block, s.sealB a.block with
    | some i, some (.cells _ _ 0 _ true), some (t + 1), some cs, some s' => match Nat.beq i.size 1, Nat.beq t e, Nat.beq a.off 0, Nat.ble (m + 1) 9223372036854775807, sl cs 0 (m + 1) with
      | true, true, true, true, some l => match bytesOk l, valBytes l with
        | true, some b => some (Value.string ⟨b.toArray⟩, s')
        | _, _ => none
      | _, _, _, _, _ => none
    | _, _, _, _, _ => none
  | _, _, _ => none) = _
 rw [hp, hm]
 simp only [hi, g1, g4, hb.rd, hs, h1, Nat.beq_refl, Nat.ble_eq_true_of_le (show m + 1 ≤ 9223372036854775807 by omega), hsl, bytesOk_vals, valBytes_byteVals]
section
variable {X : Nat → Prop} {s0 s s' : St} {R F G H : List At} {p b n c : Nat} {a : Option Addr} {C : List Value}
theorem writeC_spec (hp : Hp X s0 R F s) (ha : a = none ∨ a = some ⟨p, 0, none⟩) (h1 : Rm (tyA p [.pointer a, .slice (some ⟨b, 0, none⟩) n c] 2 158) F G) (h2 : Rm (tyA b C 1 5) G H) (t : List UInt8) (hfit : n + t.length ≤ c) (hC : C.length = c) {K : Value → St → Prop}
  (hK : ∀ s', Hp X s0 R (tyA p [.pointer (some ⟨p, 0, none⟩), .slice (some ⟨b, 0, none⟩) (n + t.length) c] 2 158 :: tyA b (putAt C n (byteVals t)) 1 5 :: H) s' → K (.tuple #[.int .i64 (t.length : Int), .nilIface]) s') :
  Cw Tryz.prog 109 [.pointer (some ⟨p, 0, none⟩), sv t] s K := by
 refine Cw.enterS Tryz.func109 rfl rfl ?_
 refine Sm.seqW ?_
 conv => whnf
 refine Sm.live [0, 1] ?_
 conv => whnf
 refine Sm.seqW ?_
 conv => whnf
 refine hp.callU (a' := tyA p [.pointer (some ⟨p, 0, none⟩), .slice (some ⟨b, 0, none⟩) n c] 2 158) h1 (fun j hj => .inl hj) (fun j hj => .inl hj) (copyCheck_spec hp.wf (hp.okF _ h1.sub.1) ha) ?_
 clear hp
 intro r s _ hp
 conv => whnf
 refine Sm.live [0, 1] ?_
 conv => whnf
 refine Sm.seqW ?_
 conv => whnf
 (refine hp.loadT .d (v := .slice (some ⟨b, 0, none⟩) n c) (by rfl) rfl rfl rfl ?_; conv => whnf)
 refine hp.appInT UB Tryz.underlying9 (Rm.there h2) t hfit hC ?_
 clear hp
 intro s hp
 conv => whnf
 refine hp.storeT (Rm.there Rm.here) (by show 1 < 2; decide) rfl rfl rfl rfl ?_
 clear hp
 intro s hp _
 conv => whnf
 refine Sm.live [0, 1] ?_
 conv => whnf
 refine Sm.seqW ?_
 conv => whnf
 refine Sm.ofW ?_
 conv => whnf
 exact ⟨hK _ (hp.pik (.cons .here (.refl _)))⟩
theorem Hp.mnz (h : Hp X s0 R F s) (n : Nat) (hn : n ≤ 140737488351232) {K : Value → St → Prop} (k : ∀ b s', Hp X s0 R (tyA b (List.replicate n (.chan none)) 1 5 :: F) s' → K0 s s' → K (.slice (some ⟨b, 0, none⟩) n n) s') :
  Cw Tryz.prog 155 [.int .i64 (n : Int)] s K := by
 obtain ⟨g1, g2⟩ := new_kp h.wf (List.replicate n (.chan none)) 1 (ty := 5 + 1)
 refine ⟨⟨_, _, k _ _ (h.push g1 ⟨g2, new_blt _ _ _ _⟩ fun j hj => by subst hj; exact Nat.le_refl _) g1, .inr (.inr ⟨Tryz.f155, Tryz.func155, rfl, ?_, ?_⟩)⟩⟩
 · unfold evExt
   rfl
 · show (match Tryz.prog.underlying 59 with
    | some (.slice e) => match Nat.ble n 140737488351232 with
      | true => some (Value.slice (some ⟨s.next, 0, none⟩) n n, s.new (List.replicate n (.chan none)) 1 (e + 1))
      | false => none
    | _ => none) = _
   rw [Tryz.underlying59]
   simp only [Nat.ble_eq_true_of_le hn]
theorem growB_spec (hp : Hp X s0 R F s) (h1 : Rm (tyA p [.pointer (some ⟨p, 0, none⟩), .slice none 0 0] 2 158) F G) (n : Nat) (h0 : 0 < n) (hn : n ≤ 100000000) {K : Value → St → Prop}
  (hK : ∀ v b s', Hp X s0 R (tyA p [.pointer (some ⟨p, 0, none⟩), .slice (some ⟨b, 0, none⟩) 0 n] 2 158 :: tyA b (List.replicate n (.chan none)) 1 5 :: G) s' → K v s') :
  Cw Tryz.prog 136 [.pointer (some ⟨p, 0, none⟩), .int .i64 (n : Int)] s K := by
 replace hp : Hp X s0 R (tyA p [.pointer (some ⟨p, 0, none⟩), .slice none 0 0] 2 158 :: G) s := hp.pik (.cons h1 (.refl _))
 clear h1
 have e1 : IntKind.i64.wrap (IntKind.i64.wrap (2 * 0) + (n : Int)) = (n : Int) := by rw [wi64 (n := 2 * 0) (by decide) (by decide), wi64 (by omega) (by omega)]; omega
 refine Cw.enterS Tryz.func136 rfl rfl ?_
 refine Sm.seqW ?_
 conv => whnf
 refine ⟨[0, 1, 3, 7, 15, 31, 0, 127, 255, 0, 512, 1536, 3584, 7680, 16383, 32767], by decide +kernel, by decide +kernel, ?_⟩
 conv => whnf
 (refine hp.loadT (C := [.pointer (some ⟨p, 0, none⟩), .slice none 0 0]) (b := p) (e := 2) (ty := 158) .here (v := .slice none 0 0) (by rfl) rfl rfl rfl ?_; conv => whnf)
 refine Om.of (.int .i64 0) rfl ?_
 conv => whnf
 refine hp.dkS ?_
 conv => whnf
 rw [e1]
 refine hp.rst.mnz n (by omega) ?_
 intro b s1 h1 k1
 conv => whnf
 refine hp.dkN h1 k1 ?_
 clear hp h1 k1
 intro s hp
 conv => whnf
 (refine hp.loadT (C := [.pointer (some ⟨p, 0, none⟩), .slice none 0 0]) (b := p) (e := 2) (ty := 158) (.there .here) (v := .slice none 0 0) (by rfl) rfl rfl rfl ?_; conv => whnf)
 have hcut : evSliceMem Tryz.prog 59 (.slice (some ⟨b, 0, none⟩) n n) none (some (.int .i64 ((0 : Nat) : Int))) none s = some (.slice (some ⟨b, 0, none⟩) 0 n) := by
  have hb : bnds n n none (some (.int .i64 ((0 : Nat) : Int))) none = some (0, 0, n) := by
   unfold bnds
   simp only [bnd_nat (Nat.zero_le n)]
  obtain ⟨i, hi1, hi2, hi3, hi4⟩ := UB.hi
  have hbk : Bty s b (List.replicate n (.chan none)) 1 5 := hp.okF _ (List.mem_cons_self ..)
  unfold evSliceMem
  rw [UB.hu]
  simp only [hi1, hbk.blk.esz, hi2, Nat.beq_refl, hb]
  simp
 refine Om.of _ (hcut) ?_
 conv => whnf
 refine Sm.live [0, 4] ?_
 conv => whnf
 refine Sm.seqW ?_
 conv => whnf
 (refine hp.loadT (C := [.pointer (some ⟨p, 0, none⟩), .slice none 0 0]) (b := p) (e := 2) (ty := 158) (.there .here) (v := .slice none 0 0) (by rfl) rfl rfl rfl ?_; conv => whnf)
 refine Om.of (.int .i64 0, s) (by rfl) ?_
 conv => whnf
 refine Sm.live [0, 4] ?_
 conv => whnf
 refine Sm.ofW ?_
 conv => whnf
 refine hp.storeT (.there .here) (by show 1 < 2; decide) rfl rfl rfl rfl ?_
 clear hp
 intro s hp _
 conv => whnf
 exact ⟨hK _ _ _ hp⟩
theorem growC_spec (hp : Hp X s0 R F s) (h1 : Rm (tyA p [.pointer none, .slice none 0 0] 2 158) F G) (n : Nat) (h0 : 0 < n) (hn : n ≤ 100000000) {K : Value → St → Prop}
  (hK : ∀ v b s', Hp X s0 R (tyA p [.pointer (some ⟨p, 0, none⟩), .slice (some ⟨b, 0, none⟩) 0 n] 2 158 :: tyA b (List.replicate n (.chan none)) 1 5 :: G) s' → K v s') :
  Cw Tryz.prog 108 [.pointer (some ⟨p, 0, none⟩), .int .i64 (n : Int)] s K := by
 refine Cw.enterS Tryz.func108 rfl rfl ?_
 refine Sm.seqW ?_
 conv => whnf
 refine hp.callU (a' := tyA p [.pointer (some ⟨p, 0, none⟩), .slice none 0 0] 2 158) h1 (fun j hj => .inl hj) (fun j hj => .inl hj) (copyCheck_spec hp.wf (hp.okF _ h1.sub.1) (.inl rfl)) ?_
 clear hp h1
 intro r s _ hp
 conv => whnf
 refine Sm.live [0, 1] ?_
 conv => whnf
 refine Sm.seq ?_
 refine Sm.seqW ?_
 conv => whnf
 refine Sm.ofW ?_
 conv => whnf
 refine Br.no (decide_eq_false (by omega)) ?_
 conv => whnf
 refine Sm.seqW ?_
 conv => whnf
 refine ⟨[0, 1, 3, 7, 15, 0, 32, 96, 224, 480, 1023, 0, 4095], by decide +kernel, by decide +kernel, ?_⟩
 conv => whnf
 (refine hp.loadT (C := [.pointer (some ⟨p, 0, none⟩), .slice none 0 0]) (b := p) (e := 2) (ty := 158) .here (v := .slice none 0 0) (by rfl) rfl rfl rfl ?_; conv => whnf)
 refine Om.of (.int .i64 0) rfl ?_
 conv => whnf
 refine hp.dkS ?_
 conv => whnf
 (refine hp.loadT (C := [.pointer (some ⟨p, 0, none⟩), .slice none 0 0]) (b := p) (e := 2) (ty := 158) .here (v := .slice none 0 0) (by rfl) rfl rfl rfl ?_; conv => whnf)
 refine Sm.live [0, 1, 21] ?_
 conv => whnf
 refine Sm.ofW ?_
 conv => whnf
 refine Br.yes (decide_eq_true (by show IntKind.i64.wrap (0 - 0) < (n : Int); rw [show IntKind.i64.wrap (0 - 0) = 0 by decide]; omega)) ?_
 conv => whnf
 refine growB_spec hp .here n h0 hn ?_
 clear hp
 intro v b s hp
 conv => whnf
 exact ⟨hK _ _ _ hp⟩
end
end

/- strings.Join with a byte between, walked; TrimPrefix. No condition. -/
section
variable [Lk]
theorem index_sv {s : St} {κ : Option Nat} {v : Value} {L : List (List UInt8)} (h : Sl s κ v 1 L.length (L.map sv)) (k : IntKind) {i : Nat} (hi : i < L.length) :
  ∃ a, evIndexAddr Tryz.prog 95 v (.int k (i : Int)) = some (.pointer (some a)) ∧ evLoad Tryz.prog 9 (.pointer (some a)) s = some (sv L[i]) := by
 obtain ⟨p, y, e1, e2, e3, a, rfl⟩ := index_sl SG Tryz.underlying9 rfl h k hi
 rw [List.getElem?_map, List.getElem?_eq_getElem hi] at e2
 injection e2 with e2
 subst e2
 exact ⟨a, e1, e3⟩
theorem joinL_len (c : UInt8) : ∀ L : List (List UInt8), L ≠ [] → (joinL c L).length = (L.map List.length).sum + (L.length - 1)
 | [], h => absurd rfl h
 | x :: r, _ => by
   have : ∀ r : List (List UInt8), (r.flatMap fun w => c :: w).length = (r.map List.length).sum + r.length := by
    intro r
    induction r with
    | nil => rfl
    | cons y r ih => simp only [List.flatMap_cons, List.length_append, List.length_cons, ih, List.map_cons, List.sum_cons]; omega
   simp only [joinL, List.length_append, this, List.map_cons, List.sum_cons, List.length_cons]
   omega
theorem sum_take_le : ∀ (L : List Nat) (i : Nat), (L.take i).sum ≤ L.sum
 | [], i => by simp
 | x :: r, 0 => by simp
 | x :: r, i + 1 => by have := sum_take_le r i; simp only [List.take_succ_cons, List.sum_cons]; omega
theorem put_take {C : List Value} {l t : List UInt8} (hC : C.take l.length = byteVals l) (h : l.length + t.length ≤ C.length) : (putAt C l.length (byteVals t)).take (l ++ t).length = byteVals (l ++ t) ∧ (putAt C l.length (byteVals t)).length = C.length := by
 unfold putAt
 rw [hC, byteVals_length]
 refine ⟨?_, ?_⟩
 · rw [byteVals_append]
   exact List.take_left' (by rw [List.length_append, byteVals_length, byteVals_length, List.length_append])
 · simp only [List.length_append, byteVals_length, List.length_drop]; omega
section
variable {X : Nat → Prop} {s0 s s' : St} {R F G H : List At} {p b c : Nat} {a : Option Addr} {C : List Value}
theorem stringC_spec (hp : Hp X s0 R F s) {l : List UInt8} (h1 : Rm (tyA p [.pointer a, .slice (some ⟨b, 0, none⟩) l.length c] 2 158) F G) (h2 : Rm (tyA b C 1 5) G H) (hC : C.take l.length = byteVals l) (h0 : l ≠ []) (hl : l.length ≤ 100000000) (hlc : l.length ≤ c) {K : Value → St → Prop}
  (hK : ∀ s', Hp X s0 R H s' → K (sv l) s') :
  Cw Tryz.prog 110 [.pointer (some ⟨p, 0, none⟩)] s K := by
 replace hp : Hp X s0 R (tyA p [.pointer a, .slice (some ⟨b, 0, none⟩) l.length c] 2 158 :: tyA b C 1 5 :: H) s := hp.pik (.cons h1 (.cons h2 (.refl _)))
 clear h1 h2
 refine Cw.enterS Tryz.func110 rfl rfl ?_
 refine Sm.seqW ?_
 conv => whnf
 refine Sm.live [0] ?_
 conv => whnf
 refine Sm.seqW ?_
 conv => whnf
 refine ⟨[0, 1, 3, 7, 15, 0, 32, 96, 224, 480, 1023, 2047], by decide +kernel, by decide +kernel, ?_⟩
 conv => whnf
 (refine hp.loadT (C := [.pointer a, .slice (some ⟨b, 0, none⟩) l.length c]) (b := p) (e := 2) (ty := 158) .here (v := .slice (some ⟨b, 0, none⟩) l.length c) (by rfl) rfl rfl rfl ?_; conv => whnf)
 obtain ⟨m, hm⟩ : ∃ m, l.length = m + 1 := ⟨l.length - 1, by have := List.length_pos_iff.2 h0; omega⟩
 obtain ⟨m2, hm2⟩ : ∃ m2, c = m2 + 1 := ⟨c - 1, by omega⟩
 refine Om.of (.pointer (some ⟨b, 0, none⟩)) (by rw [hm, hm2]; rfl) ?_
 conv => whnf
 refine hp.dkS ?_
 conv => whnf
 (refine hp.loadT (C := [.pointer a, .slice (some ⟨b, 0, none⟩) l.length c]) (b := p) (e := 2) (ty := 158) .here (v := .slice (some ⟨b, 0, none⟩) l.length c) (by rfl) rfl rfl rfl ?_; conv => whnf)
 have hB : Bty s b C 1 5 := hp.okF (tyA b C 1 5) (by simp)
 obtain ⟨s', u1, u2⟩ := unsafe_strC (it := 3) Tryz.underlying189 (i := _) (rfl : Tryz.prog.info? 5 = some _) rfl hp.rst.wf hB.blk.reset hB.blt.reset hC h0 (by omega)
 refine Om.of _ u1 ?_
 conv => whnf
 have h9 := hp.rst.upd (a := tyA b C 1 5) (a' := bufA none (.slice none 0 0) [] 5) (.there .here) u2 (fun j hj => .inl hj) ⟨.inl ⟨rfl, rfl, rfl⟩⟩ (fun j hj => by cases hj)
 refine hp.dkA h9 ?_ ?_
 · intro s2 hp
   conv => whnf
   refine Sm.live [2] ?_
   conv => whnf
   refine Sm.ofW ?_
   conv => whnf
   exact ⟨hK _ (hp.pik (.skip (.skip (.refl _))))⟩
 · intro s2 hp
   conv => whnf
   refine Sm.live [2] ?_
   conv => whnf
   refine Sm.ofW ?_
   conv => whnf
   exact ⟨hK _ (hp.pik (.skip (.skip (.refl _))))⟩
end
theorem flat_le (c : UInt8) : ∀ (T : List (List UInt8)) (i : Nat), ((T.take i).flatMap fun w => c :: w).length ≤ (T.flatMap fun w => c :: w).length
 | [], i => by simp
 | x :: r, 0 => by simp
 | x :: r, i + 1 => by
   have := flat_le c r i
   simp only [List.take_succ_cons, List.flatMap_cons, List.length_append]; omega
theorem drop_sv {s : St} {κ : Option Nat} {v : Value} {L : List (List UInt8)} (h : Sl s κ v 1 L.length (L.map sv)) {i : Nat} (hi : i ≤ L.length) :
  ∃ v', evSliceMem Tryz.prog 95 v (some (.int .i64 (i : Int))) none none s = some v' ∧ Sl s κ v' 1 (L.drop i).length ((L.drop i).map sv) := by
 obtain ⟨v', e, h'⟩ := slice_sl SG h .i64 .i64 (some i) none (by simpa using hi) (by simp)
 refine ⟨v', e, ?_⟩
 simp only [Option.getD_some, Option.getD_none, Nat.mul_one] at h'
 rw [← List.map_drop, List.take_of_length_le (by simp)] at h'
 rw [List.length_drop]
 exact h'
theorem sjoin_spec {z : St} (wf : WF z) {κ : Option Nat} {v : Value} {L : List (List UInt8)} (hv : Sl z κ v 1 L.length (L.map sv)) (c : UInt8) (hb : (joinL c L).length ≤ 100000000) :
  Cw Tryz.prog 63 [v, sv [c]] z fun r s' => K0 z s' ∧ r = sv (joinL c L) := by
 obtain ⟨a, cp, rfl⟩ := hv.shape
 have hp : Hp (fun _ => False) z [slA κ (.slice a L.length cp) 1 L.length (L.map sv)] [] z := Hp.start _ wf _ (by simp; exact hv)
 refine Cw.enterS Tryz.func63 rfl rfl ?_
 refine Sm.seqW ?_
 conv => whnf
 refine Sm.live [0, 1] ?_
 conv => whnf
 refine Sm.seq ?_
 refine Sm.ofW ?_
 conv => whnf
 by_cases h0 : L = []
 · have q : (((L.length : Nat) : Int) == 0) = true := by rw [h0]; rfl
   repeat (first | (refine Br.yes q ?_; conv => whnf) | ((first | refine Br.y1 ?_ | refine Br.n1 ?_); conv => whnf))
   exact ⟨hp.fr, by rw [h0]; rfl⟩
 have hl0 : 0 < L.length := List.length_pos_iff.2 h0
 have q : (((L.length : Nat) : Int) == 0) = false := beq_eq_false_iff_ne.2 (by omega)
 by_cases h1 : L.length = 1
 · obtain ⟨w, rfl⟩ := List.length_eq_one_iff.1 h1
   repeat (first | (refine Br.no q ?_; conv => whnf) | ((first | refine Br.y1 ?_ | refine Br.n1 ?_); conv => whnf))
   obtain ⟨e, g1, g2⟩ := index_sv (hp.slR (κ := κ) (v := .slice a 1 cp) (cs := [sv w]) .here) .i64 (i := 0) (L := [w]) (by simp)
   refine Om.of _ (g1) ?_
   conv => whnf
   refine Om.of _ (g2) ?_
   conv => whnf
   exact ⟨hp.fr, by (show sv w = sv (w ++ []); rw [List.append_nil])⟩
 have q1 : (((L.length : Nat) : Int) == 1) = false := beq_eq_false_iff_ne.2 (by omega)
 repeat (first | (refine Br.no q ?_; conv => whnf) | (refine Br.no q1 ?_; conv => whnf) | ((first | refine Br.y1 ?_ | refine Br.n1 ?_); conv => whnf))
 have hjl := joinL_len c L h0
 obtain ⟨m, hm⟩ : ∃ m, L.length = m + 1 := ⟨L.length - 1, by omega⟩
 have hm1 : 0 < m := by omega
 have e1 : IntKind.i64.wrap ((L.length : Int) - 1) = (m : Int) := by rw [wi64 (by omega) (by omega)]; omega
 have hsum : (L.map List.length).sum + m = (joinL c L).length := by rw [hjl, hm]; omega
 refine Sm.seqW ?_
 conv => whnf
 refine Sm.live [0, 1, 5] ?_
 conv => whnf
 refine Sm.seq ?_
 refine Sm.seqW ?_
 conv => whnf
 refine Sm.ofW ?_
 conv => whnf
 repeat ((first | refine Br.y1 ?_ | refine Br.n1 ?_); conv => whnf)
 refine Om.of (.int .i64 ((9223372036854775807 / m : Nat) : Int)) (by rw [e1]; exact quo_nat hm1 (by decide)) ?_
 conv => whnf
 have hq : ¬ (1 : Int) ≥ ((9223372036854775807 / m : Nat) : Int) := by
  have : 2 ≤ 9223372036854775807 / m := (Nat.le_div_iff_mul_le hm1).2 (by omega)
  omega
 refine Br.no (decide_eq_false hq) ?_
 conv => whnf
 have e2 : IntKind.i64.wrap (0 + IntKind.i64.wrap ((1 : Int) * IntKind.i64.wrap ((L.length : Int) - 1))) = (m : Int) := by
  rw [e1, wi64 (n := (1 : Int) * (m : Int)) (by omega) (by omega), wi64 (by omega) (by omega)]; omega
 have e2' : IntKind.i64.wrap (0 + IntKind.i64.wrap (((bs ⟨#[c]⟩).length : Int) * IntKind.i64.wrap ((L.length : Int) - 1))) = (m : Int) := e2
 rw [e2']
 refine Sm.live [0, 1, 5] ?_
 conv => whnf
 refine Sm.seq ?_
 refine Sm.seqW ?_
 conv => whnf
 refine Sm.live [0, 1, 5, 39, 40, 41] ?_
 conv => whnf
 refine Sm.block ?_
 refine Sm.loop ?_
 refine Lp.ofS (α := Nat) (fun i => [(0, .slice a L.length cp), (1, sv [c]), (5, .int .i64 ((m + ((L.map List.length).take i).sum : Nat) : Int)), (39, .slice a L.length cp), (40, .int .i64 ((L.length : Nat) : Int)), (41, .int .i64 (i : Int))])
  (fun i s' => i ≤ L.length ∧ s' = z) (fun i => L.length - i) ?_ 0 (subK_ok (by refine ⟨rfl, rfl, rfl, rfl, rfl, rfl, trivial⟩)) ⟨Nat.zero_le _, rfl⟩
 rintro i s ⟨hi, rfl⟩
 have hti := sum_take_le (L.map List.length) i
 refine Sm.seqW ?_
 conv => whnf
 refine Sm.live [0, 1, 5, 39, 40, 41, 42] ?_
 conv => whnf
 refine Sm.seq ?_
 refine Sm.ofW ?_
 conv => whnf
 refine Br.mk (fun hc => ?_) (fun hc => ?_)
 · have hc : i < L.length := by have : (i : Int) < ((L.length : Nat) : Int) := of_decide_eq_true hc; omega
   obtain ⟨e, g1, g2⟩ := index_sv (hp.slR (κ := κ) (v := .slice a L.length cp) .here) .i64 hc
   have hts := sum_take_le (L.map List.length) (i + 1)
   have e3 : ((L.map List.length).take (i + 1)).sum = ((L.map List.length).take i).sum + L[i].length := by
    rw [List.take_succ_eq_append_getElem (by rw [List.length_map]; exact hc), List.sum_append, List.getElem_map]; simp
   generalize hw : L[i] = w at *
   conv => whnf
   refine Sm.seq ?_
   refine Sm.block ?_
   refine Sm.seqW ?_
   conv => whnf
   refine Om.of _ (g1) ?_
   conv => whnf
   refine Om.of _ (g2) ?_
   conv => whnf
   refine Sm.live [0, 1, 5, 7, 39, 40, 41] ?_
   conv => whnf
   refine Sm.seq ?_
   refine Sm.seqW ?_
   conv => whnf
   refine Sm.ofW ?_
   conv => whnf
   refine Br.no (decide_eq_false (by
    show ¬ ((w.length : Int) > IntKind.i64.wrap (9223372036854775807 - ((m + ((L.map List.length).take i).sum : Nat) : Int)))
    rw [wi64 (by omega) (by omega)]; omega)) ?_
   conv => whnf
   refine Sm.ofW ?_
   conv => whnf
   refine Sm.ofW ?_
   conv => whnf
   exact ⟨i + 1, by (show L.length - (i + 1) < L.length - i); omega, subK_ok (by refine ⟨rfl, rfl, congrArg (fun x => some (Value.int .i64 x)) (show IntKind.i64.wrap (((m + ((L.map List.length).take i).sum : Nat) : Int) + ((w.length : Nat) : Int)) = ((m + ((L.map List.length).take (i + 1)).sum : Nat) : Int) by rw [wi64 (by omega) (by omega)]; omega), rfl, rfl, congrArg (fun x => some (Value.int .i64 x)) (show IntKind.i64.wrap ((i : Int) + 1) = ((i + 1 : Nat) : Int) by rw [wi64 (by omega) (by omega)]; omega), trivial⟩), by omega, rfl⟩
 · have hc : i = L.length := by have : ¬ (i : Int) < ((L.length : Nat) : Int) := of_decide_eq_false hc; omega
   subst hc
   rw [List.take_of_length_le (by rw [List.length_map]; exact Nat.le_refl _)]
   have hN : m + (L.map List.length).sum = (joinL c L).length := by omega
   rw [hN]
   obtain ⟨N, hN2⟩ : ∃ N, N = (joinL c L).length := ⟨_, rfl⟩
   rw [← hN2]
   conv => whnf
   refine Sm.seqW ?_
   conv => whnf
   refine hp.allocT (cs := [.pointer none, .slice none 0 0]) (e := 2) rfl rfl rfl rfl rfl ?_
   clear hp
   intro pb s1 hp _
   conv => whnf
   refine Sm.live [0, 1, 5, 8] ?_
   conv => whnf
   refine Sm.seqW ?_
   conv => whnf
   refine growC_spec hp .here N (by omega) (by omega) ?_
   clear hp
   intro vg b s2 hp
   conv => whnf
   refine Sm.live [0, 1, 8] ?_
   conv => whnf
   refine Sm.seqW ?_
   conv => whnf
   obtain ⟨x, T, rfl⟩ := List.exists_cons_of_ne_nil h0
   have hTm : T.length = m := by simpa using hm
   have hNT : N = x.length + (T.flatMap fun w => c :: w).length := by rw [hN2]; show (x ++ _).length = _; rw [List.length_append]
   obtain ⟨e0, g1, g2⟩ := index_sv (hp.slR (κ := κ) (v := .slice a (x :: T).length cp) .here) .i64 (i := 0) hl0
   refine Om.of _ (g1) ?_
   conv => whnf
   refine Om.of _ (g2) ?_
   conv => whnf
   refine writeC_spec hp (.inr rfl) .here .here x (by omega) (by simp) ?_
   clear hp
   intro s3 hp
   have hC0 := put_take (C := List.replicate N (.chan none)) (l := []) (t := x) rfl (by simp; omega)
   rw [List.nil_append] at hC0
   generalize hCd : putAt (List.replicate N (Value.chan none)) ([] : List UInt8).length (byteVals x) = C0 at hC0
   have hp : Hp (fun _ => False) s [slA κ (.slice a (x :: T).length cp) 1 (x :: T).length ((x :: T).map sv)] [tyA pb [.pointer (some ⟨pb, 0, none⟩), .slice (some ⟨b, 0, none⟩) x.length N] 2 158, tyA b C0 1 5] s3 := by
    rw [← hCd]
    have : 0 + x.length = x.length := Nat.zero_add _
    rw [this] at hp
    exact hp
   rw [List.length_replicate] at hC0
   conv => whnf
   refine Sm.live [0, 1, 8] ?_
   conv => whnf
   refine Sm.seq ?_
   refine Sm.seqW ?_
   conv => whnf
   obtain ⟨v', g3, g4⟩ := drop_sv (hp.slR (κ := κ) (v := .slice a (x :: T).length cp) .here) (i := 1) (by simp)
   refine Om.of _ (g3) ?_
   conv => whnf
   have g4 : Sl s3 κ v' 1 T.length (T.map sv) := g4
   obtain ⟨a', cp', rfl⟩ := g4.shape
   replace hp := hp.view .here (a' := slA κ (.slice a' T.length cp') 1 T.length (T.map sv)) g4 (fun j hj => hj)
   clear g3 g4
   conv => whnf
   refine Sm.live [1, 8, 63, 64, 65] ?_
   conv => whnf
   refine Sm.block ?_
   refine Sm.loop ?_
   refine Lp.ofS (α := Nat) (fun i => [(1, sv [c]), (8, .pointer (some ⟨pb, 0, none⟩)), (63, .slice a' T.length cp'), (64, .int .i64 ((T.length : Nat) : Int)), (65, .int .i64 (i : Int))])
    (fun i s' => i ≤ T.length ∧ ∃ C l, l = x ++ (T.take i).flatMap (fun w => c :: w) ∧ C.take l.length = byteVals l ∧ C.length = N ∧ Hp (fun _ => False) s [slA κ (.slice a' T.length cp') 1 T.length (T.map sv)] [tyA pb [.pointer (some ⟨pb, 0, none⟩), .slice (some ⟨b, 0, none⟩) l.length N] 2 158, tyA b C 1 5] s') (fun i => T.length - i) ?_ 0 (subK_ok (by refine ⟨rfl, rfl, rfl, rfl, rfl, trivial⟩)) ⟨Nat.zero_le _, C0, x, by simp, hC0.1, hC0.2, hp.pikR (by repeat (first | exact Pik.nil | exact Pik.refl _ | exact Rm.here | apply Rm.there | apply Pik.cons | apply Pik.skip))⟩
   clear hp hC0
   rintro i s4 ⟨hi, C, l, hl, hC1, hC2, hp⟩
   refine Sm.seqW ?_
   conv => whnf
   refine Sm.live [1, 8, 63, 64, 65, 66] ?_
   conv => whnf
   refine Sm.seq ?_
   refine Sm.ofW ?_
   conv => whnf
   refine Br.mk (fun hc => ?_) (fun hc => ?_)
   · have hc : i < T.length := by have : (i : Int) < ((T.length : Nat) : Int) := of_decide_eq_true hc; omega
     obtain ⟨e, g1, g2⟩ := index_sv (hp.slR (κ := κ) (v := .slice a' T.length cp') .here) .i64 hc
     have hfl := flat_le c T (i + 1)
     have e3 : (T.take (i + 1)).flatMap (fun w => c :: w) = (T.take i).flatMap (fun w => c :: w) ++ c :: T[i] := by
      rw [List.take_succ_eq_append_getElem hc, List.flatMap_append]; simp
     have hll : l.length + 1 + T[i].length ≤ N := by
      have := congrArg List.length e3
      rw [hl]
      simp only [List.length_append, List.length_cons] at this ⊢
      omega
     have hl2 : x ++ (T.take (i + 1)).flatMap (fun w => c :: w) = l ++ [c] ++ T[i] := by rw [e3, hl]; simp
     generalize hw : T[i] = w at *
     conv => whnf
     refine Sm.seq ?_
     refine Sm.block ?_
     refine Sm.seqW ?_
     conv => whnf
     refine Om.of _ (g1) ?_
     conv => whnf
     refine Om.of _ (g2) ?_
     conv => whnf
     refine Sm.live [1, 8, 10, 63, 64, 65] ?_
     conv => whnf
     refine Sm.seqW ?_
     conv => whnf
     refine writeC_spec hp (.inr rfl) .here .here [c] (by simp; omega) hC2 ?_
     clear hp
     intro s5 hp
     obtain ⟨k1, k2⟩ := put_take (t := [c]) hC1 (by simp; omega)
     generalize putAt C l.length (byteVals [c]) = C' at *
     rw [show l.length + [c].length = (l ++ [c]).length by simp] at hp
     conv => whnf
     refine Sm.live [1, 8, 10, 63, 64, 65] ?_
     conv => whnf
     refine Sm.ofW ?_
     conv => whnf
     refine writeC_spec hp (.inr rfl) .here .here w (by simp; omega) (by rw [k2, hC2]) ?_
     clear hp
     intro s6 hp
     obtain ⟨k3, k4⟩ := put_take (t := w) k1 (by simp; omega)
     generalize putAt C' (l ++ [c]).length (byteVals w) = C'' at *
     rw [show (l ++ [c]).length + w.length = (l ++ [c] ++ w).length by simp; omega] at hp
     conv => whnf
     refine Sm.ofW ?_
     conv => whnf
     exact ⟨i + 1, by (show T.length - (i + 1) < T.length - i); omega, subK_ok (by refine ⟨rfl, rfl, rfl, rfl, congrArg (fun x => some (Value.int .i64 x)) (show IntKind.i64.wrap ((i : Int) + 1) = ((i + 1 : Nat) : Int) by rw [wi64 (by omega) (by omega)]; omega), trivial⟩), by omega, C'', l ++ [c] ++ w, hl2.symm, k3, by omega, hp⟩
   · have hc : i = T.length := by have : ¬ (i : Int) < ((T.length : Nat) : Int) := of_decide_eq_false hc; omega
     subst hc
     rw [List.take_length] at hl
     have hl : l = joinL c (x :: T) := hl
     have hTne : T ≠ [] := fun e => by rw [e] at hm; simp at hm; omega
     have hlne : l ≠ [] := fun e => by
      have := congrArg List.length hl
      rw [e, ← hN2] at this
      obtain ⟨t, T', rfl⟩ := List.exists_cons_of_ne_nil hTne
      simp at this hNT
      omega
     conv => whnf
     refine Sm.seqW ?_
     conv => whnf
     refine stringC_spec hp .here .here hC1 hlne (by rw [hl]; exact hb) (by rw [hl, hN2]; exact Nat.le_refl _) ?_
     clear hp
     intro s' hp
     conv => whnf
     refine Sm.ofW ?_
     conv => whnf
     exact ⟨hp.fr, by rw [hl]; rfl⟩
end

/- Lines of an entry in memory; kinds of accounts. No condition. -/
section
variable [Lk]
def Ln.cells (x : Ln) : List Value := [.int .i64 x.acct, .bool x.amt.neg, .int .u64 ((x.amt.c % w64 : Nat) : Int), .int .u64 ((x.amt.c / w64 : Nat) : Int), .int .i64 x.amt.scale, .int .i64 x.wth]
def Ln.val (x : Ln) : Value := .agg #[.int .i64 x.acct, .bool x.amt.neg, .int .u64 ((x.amt.c % w64 : Nat) : Int), .int .u64 ((x.amt.c / w64 : Nat) : Int), .int .i64 x.amt.scale, .int .i64 x.wth]
def lnC (ls : List Ln) : List Value := (ls.map Ln.cells).flatten
theorem lnC_nil : lnC [] = [] := rfl
theorem lnC_cons (t : Ln) (ts : List Ln) : lnC (t :: ts) = t.cells ++ lnC ts := by simp [lnC]
theorem lnC_app (a b : List Ln) : lnC (a ++ b) = lnC a ++ lnC b := by simp [lnC]
theorem lnC_snoc (a : List Ln) (t : Ln) : lnC (a ++ [t]) = lnC a ++ t.cells := by rw [lnC_app, lnC_cons, lnC_nil, List.append_nil]
theorem lnC_len : ∀ ts : List Ln, (lnC ts).length = ts.length * 6
 | [] => rfl
 | t :: ts => by
   rw [lnC_cons, List.length_append, lnC_len ts, List.length_cons]
   show 6 + ts.length * 6 = (ts.length + 1) * 6
   omega
theorem lnC_at : ∀ {ts : List Ln} {i : Nat} (h : i < ts.length), ((lnC ts).drop (i * 6)).take 6 = ts[i].cells
 | t :: ts, 0, _ => rfl
 | t :: ts, i + 1, h => by
   have := lnC_at (ts := ts) (i := i) (by simpa using h)
   rw [lnC_cons, show (i + 1) * 6 = 6 + i * 6 by omega, ← List.drop_drop]
   exact this
theorem LT : SlT Tryz.prog 24 35 6 48 Ln.zero.val := ⟨Tryz.underlying24, ⟨_, rfl, rfl, rfl, rfl⟩, rfl, rfl, by decide, by decide⟩
abbrev Sln (s : St) (κ : Option Nat) (v : Value) (ls : List Ln) : Prop := Sl s κ v 6 ls.length (lnC ls)
theorem index_ln {s : St} {κ : Option Nat} {v : Value} {l : List Ln} (h : Sln s κ v l) (k : IntKind) {i : Nat} (hi : i < l.length) :
  ∃ a, evIndexAddr Tryz.prog 24 v (.int k (i : Int)) = some (.pointer (some a)) ∧ evLoad Tryz.prog 35 (.pointer (some a)) s = some l[i].val := by
 obtain ⟨a, e1, e2⟩ := index_slN LT Tryz.underlying35 h k hi
 rw [lnC_at hi] at e2
 exact ⟨a, e1, e2⟩
def kindF (a : Int) : Int := if a < 0 ∨ 16 ≤ a then 0 else if a ≤ 3 then 1 else if a ≤ 6 then 2 else if a ≤ 8 then 3 else 4
theorem kindF_0 {a : Int} : kindF a = 0 ↔ ¬ (0 ≤ a ∧ a < 16) := by
 unfold kindF
 constructor
 · intro h g
   rw [if_neg (by omega)] at h
   split at h
   · cases h
   · split at h
     · cases h
     · split at h <;> cases h
 · intro h; rw [if_pos (by omega)]
theorem kind_spec (s : St) (a : Int) : Cw Tryz.prog 97 [.int .i64 a] s fun r s' => s' = s ∧ r = .int .i64 (kindF a) := by
 refine Cw.enterS Tryz.func97 rfl rfl ?_
 refine Sm.seqW ?_
 conv => whnf
 refine Sm.live [0] ?_
 conv => whnf
 refine Sm.ofW ?_
 conv => whnf
 repeat' (first | (refine Br.yes (by first | with_reducible rfl | with_reducible assumption) ?_; conv => whnf) | (refine Br.no (by first | with_reducible rfl | with_reducible assumption) ?_; conv => whnf) | (refine Br.mk (fun hq => ?_) (fun hq => ?_) <;> conv => whnf))
 all_goals refine ⟨rfl, congrArg (Value.int .i64) ?_⟩
 all_goals unfold kindF
 all_goals simp only [decide_eq_true_eq, decide_eq_false_iff_not] at *
 all_goals (first | (rw [if_pos (by omega)]) | (rw [if_neg (by omega)]; first | (rw [if_pos (by omega)]) | (rw [if_neg (by omega)]; first | (rw [if_pos (by omega)]) | (rw [if_neg (by omega)]; first | (rw [if_pos (by omega)]) | (rw [if_neg (by omega)])))))
theorem isWith_spec (s : St) (a : Int) : Cw Tryz.prog 98 [.int .i64 a] s fun r s' => s' = s ∧ r = .bool (isWithF a) := by
 refine Cw.enterS Tryz.func98 rfl rfl ?_
 refine Sm.seqW ?_
 conv => whnf
 refine Sm.live [0] ?_
 conv => whnf
 refine Sm.ofW ?_
 conv => whnf
 repeat' (first | (refine Br.yes (by first | with_reducible rfl | with_reducible assumption) ?_; conv => whnf) | (refine Br.no (by first | with_reducible rfl | with_reducible assumption) ?_; conv => whnf) | (refine Br.mk (fun hq => ?_) (fun hq => ?_) <;> conv => whnf))
 all_goals refine ⟨rfl, congrArg Value.bool ?_⟩
 all_goals unfold isWithF
 all_goals (first | assumption | simp_all)
end

/- entry.short, needless and one walked. No condition. -/
section
variable [Lk]
theorem small_iff {l : List UInt8} : (¬ smallF l < 0) ↔ ∃ j, j < 100 ∧ l = itoaF j := by
 constructor
 · intro h
   obtain ⟨k, h1, h2, _⟩ := smallF_ok h
   exact ⟨k, h1, h2⟩
 · rintro ⟨j, h1, h2⟩ h
   exact smallF_no h j h1 h2
theorem eshort_spec {z : St} (wf : WF z) (hg : Gs z) (l : List UInt8) (hl : l.length ≤ 281474976710656) :
  Cw Tryz.prog 101 [sv l] z fun r s' => K0 z s' ∧ ∃ n : Int, r = .tuple #[.int .i64 n, .bool (decide (¬ smallF l < 0))] ∧ (¬ smallF l < 0 → n = smallF l) := by
 have hp : Hp (fun _ => False) z [] [] z := Hp.start _ wf _ (by simp)
 refine Cw.enterS Tryz.func101 rfl rfl ?_
 refine Sm.seqW ?_
 conv => whnf
 refine Sm.live [0] ?_
 conv => whnf
 refine Sm.seqW ?_
 conv => whnf
 refine hp.call (atoi2_spec hp.wf hg l hl) ?_
 clear hp
 rintro _ s ⟨n, e, rfl, hn, he, hk⟩ hp _
 have fin : ∀ b : Bool, (b = true ↔ ∃ j, j < 100 ∧ l = itoaF j) → (∃ n' : Int, Value.tuple #[.int .i64 n, .bool b] = .tuple #[.int .i64 n', .bool (decide (¬ smallF l < 0))] ∧ (¬ smallF l < 0 → n' = smallF l)) := by
  intro b hb
  have e1 : b = decide (¬ smallF l < 0) := by rw [Bool.eq_iff_iff, hb, decide_eq_true_iff]; exact small_iff.symm
  refine ⟨n, by rw [e1], fun h => ?_⟩
  obtain ⟨k, h1, h2, h3⟩ := smallF_ok h
  rw [h3]; exact (hk k h1 h2).1
 conv => whnf
 refine Sm.live [0, 4, 5] ?_
 conv => whnf
 refine Sm.seqW ?_
 conv => whnf
 rcases he with rfl | ⟨v, rfl⟩
 · refine Om.of (.bool true) (by kernel_rfl) ?_
   conv => whnf
   by_cases h1 : 0 ≤ n
   · have q1 : decide (n ≥ 0) = true := decide_eq_true h1
     by_cases h2 : n < 100
     · have q2 : decide (n < 100) = true := decide_eq_true h2
       obtain ⟨k, rfl⟩ : ∃ k : Nat, n = k := ⟨n.toNat, by omega⟩
       repeat (first | (refine Br.yes q1 ?_; conv => whnf) | (refine Br.yes q2 ?_; conv => whnf) | ((first | refine Br.y1 ?_ | refine Br.n1 ?_); conv => whnf))
       refine (itoa2_spec _ (show k < 100 by omega)).mono ?_
       rintro _ s1 ⟨h1, rfl⟩
       obtain rfl := h1.symm
       conv => whnf
       repeat (first | (refine Br.yes q1 ?_; conv => whnf) | (refine Br.yes q2 ?_; conv => whnf) | ((first | refine Br.y1 ?_ | refine Br.n1 ?_); conv => whnf))
       refine Om.of _ (sv_eq (itoaF k) l) ?_
       conv => whnf
       repeat (first | (refine Br.yes q1 ?_; conv => whnf) | (refine Br.yes q2 ?_; conv => whnf) | ((first | refine Br.y1 ?_ | refine Br.n1 ?_); conv => whnf))
       refine Sm.live [2, 3] ?_
       conv => whnf
       refine Sm.ofW ?_
       conv => whnf
       refine ⟨hp.fr, fin _ ?_⟩
       rw [beq_iff_eq]
       constructor
       · intro h; exact ⟨k, by omega, h.symm⟩
       · rintro ⟨j, h3, h4⟩
         have := (hk j h3 h4).1
         have : k = j := Int.ofNat.inj this
         subst this
         exact h4.symm
     · have q2 : decide (n < 100) = false := decide_eq_false h2
       repeat (first | (refine Br.yes q1 ?_; conv => whnf) | (refine Br.no q2 ?_; conv => whnf) | ((first | refine Br.y1 ?_ | refine Br.n1 ?_); conv => whnf))
       refine Sm.live [2, 3] ?_
       conv => whnf
       refine Sm.ofW ?_
       conv => whnf
       exact ⟨hp.fr, fin _ ⟨fun h => (by cases h), fun ⟨j, h3, h4⟩ => by have := (hk j h3 h4).1; omega⟩⟩
   · have q1 : decide (n ≥ 0) = false := decide_eq_false h1
     repeat (first | (refine Br.no q1 ?_; conv => whnf) | ((first | refine Br.y1 ?_ | refine Br.n1 ?_); conv => whnf))
     refine Sm.live [2, 3] ?_
     conv => whnf
     refine Sm.ofW ?_
     conv => whnf
     exact ⟨hp.fr, fin _ ⟨fun h => (by cases h), fun ⟨j, h3, h4⟩ => by have := (hk j h3 h4).1; omega⟩⟩
 · refine Om.of (.bool false) (by rfl) ?_
   conv => whnf
   repeat ((first | refine Br.y1 ?_ | refine Br.n1 ?_); conv => whnf)
   refine Sm.live [2, 3] ?_
   conv => whnf
   refine Sm.ofW ?_
   conv => whnf
   exact ⟨hp.fr, fin _ ⟨fun h => (by cases h), fun ⟨j, h3, h4⟩ => by have := (hk j h3 h4).2; cases this⟩⟩
def trimF1 (l p : List UInt8) : List UInt8 := if hasP l p = true then l.drop p.length else l
theorem trimPre_spec (s : St) (l p : List UInt8) : Cw Tryz.prog 131 [sv l, sv p] s fun r s' => s' = s ∧ r = sv (trimF1 l p) := by
 have h1 : Cw Tryz.prog 149 [sv l, sv p] s fun r s' => s' = s ∧ r = sv (trimF1 l p) := by
  refine Cw.enterS Tryz.func149 rfl rfl ?_
  refine Sm.seqW ?_
  conv => whnf
  refine Sm.live [0, 1] ?_
  conv => whnf
  refine Sm.seq ?_
  refine Sm.seqW ?_
  conv => whnf
  refine (hasPrefix_spec _ l p).mono ?_
  rintro _ s1 ⟨h1, rfl⟩
  obtain rfl := h1.symm
  conv => whnf
  refine Sm.live [0, 1, 7] ?_
  conv => whnf
  refine Sm.ofW ?_
  conv => whnf
  unfold trimF1
  cases hq : hasP l p with
  | true =>
    repeat ((first | refine Br.y1 ?_ | refine Br.n1 ?_); conv => whnf)
    have hle : p.length ≤ l.length := by
     unfold hasP at hq
     simp only [Bool.and_eq_true, decide_eq_true_eq] at hq
     exact hq.1
    refine Om.of _ (str_drop Tryz.underlying9 (l := l) (j := p.length) .i64 hle) ?_
    conv => whnf
    exact ⟨rfl, by rw [if_pos rfl]; rfl⟩
  | false =>
    repeat ((first | refine Br.y1 ?_ | refine Br.n1 ?_); conv => whnf)
    refine Sm.seqW ?_
    conv => whnf
    refine Sm.live [4] ?_
    conv => whnf
    refine Sm.ofW ?_
    conv => whnf
    exact ⟨rfl, by rw [if_neg (by decide)]; rfl⟩
 refine Cw.enterS Tryz.func131 rfl rfl ?_
 refine Sm.seqW ?_
 conv => whnf
 refine Sm.live [0, 1] ?_
 conv => whnf
 refine Sm.seqW ?_
 conv => whnf
 refine h1.mono ?_
 rintro _ s1 ⟨h1, rfl⟩
 obtain rfl := h1.symm
 conv => whnf
 refine Sm.live [4] ?_
 conv => whnf
 refine Sm.ofW ?_
 conv => whnf
 exact ⟨rfl, rfl⟩
theorem u8_beq48 (c : UInt8) : (((c.toNat : Nat) : Int) == 48) = (c == 48) := by
 rw [Bool.eq_iff_iff, beq_iff_eq, beq_iff_eq]
 exact ⟨fun h => UInt8.toNat_inj.1 (Int.ofNat.inj h), fun h => by rw [h]; rfl⟩
theorem u8_bne46 (c : UInt8) : (!(((c.toNat : Nat) : Int) == 46)) = !(c == 46) := by
 congr 1
 rw [Bool.eq_iff_iff, beq_iff_eq, beq_iff_eq]
 exact ⟨fun h => UInt8.toNat_inj.1 (Int.ofNat.inj h), fun h => by rw [h]; rfl⟩
theorem needless_spec (s : St) (l : List UInt8) : Cw Tryz.prog 103 [sv l] s fun r s' => s' = s ∧ r = .bool (lessN l) := by
 refine Cw.enterS Tryz.func103 rfl rfl ?_
 refine Sm.seqW ?_
 conv => whnf
 refine Sm.live [0] ?_
 conv => whnf
 refine Sm.seqW ?_
 conv => whnf
 refine (trimPre_spec _ l [45]).mono ?_
 rintro _ s1 ⟨h1, rfl⟩
 obtain rfl := h1.symm
 conv => whnf
 have hb : trimF1 l [45] = bodyF l := rfl
 rw [hb]
 refine Sm.live [0] ?_
 conv => whnf
 refine Sm.ofW ?_
 conv => whnf
 unfold lessN
 cases bodyF l with
 | nil =>
   repeat ((first | refine Br.y1 ?_ | refine Br.n1 ?_); conv => whnf)
   exact ⟨rfl, rfl⟩
 | cons a r =>
   cases r with
   | nil =>
     repeat ((first | refine Br.y1 ?_ | refine Br.n1 ?_); conv => whnf)
     exact ⟨rfl, rfl⟩
   | cons b r =>
     have q : decide ((((bs ⟨(a :: b :: r).toArray⟩).length : Nat) : Int) > 1) = true := decide_eq_true (by show (((a :: b :: r).length : Nat) : Int) > 1; simp only [List.length_cons]; omega)
     repeat (first | (refine Br.yes q ?_; conv => whnf) | ((first | refine Br.y1 ?_ | refine Br.n1 ?_); conv => whnf))
     refine Om.of _ (str_index Tryz.underlying9 (l := a :: b :: r) (i := 0) (by simp) .i64) ?_
     conv => whnf
     have e1 : ((((a :: b :: r)[0]'(by simp)).toNat : Nat) : Int) = ((a.toNat : Nat) : Int) := rfl
     repeat (first | (refine Br.yes q ?_; conv => whnf) | ((first | refine Br.y1 ?_ | refine Br.n1 ?_); conv => whnf))
     rw [e1, u8_beq48]
     repeat (first | (refine Br.yes q ?_; conv => whnf) | ((first | refine Br.y1 ?_ | refine Br.n1 ?_); conv => whnf))
     cases h48 : a == 48 with
     | true =>
       repeat (first | (refine Br.yes h48 ?_; conv => whnf) | ((first | refine Br.y1 ?_ | refine Br.n1 ?_); conv => whnf))
       refine Om.of _ (str_index Tryz.underlying9 (l := a :: b :: r) (i := 1) (by simp) .i64) ?_
       conv => whnf
       have e2 : ((((a :: b :: r)[1]'(by simp)).toNat : Nat) : Int) = ((b.toNat : Nat) : Int) := rfl
       repeat (first | (refine Br.yes h48 ?_; conv => whnf) | ((first | refine Br.y1 ?_ | refine Br.n1 ?_); conv => whnf))
       exact ⟨rfl, congrArg Value.bool (by show (!(((b.toNat : Nat) : Int) == 46)) = (a == 48 && !(b == 46)); rw [h48, Bool.true_and]; exact u8_bne46 b)⟩
     | false =>
       repeat (first | (refine Br.no h48 ?_; conv => whnf) | ((first | refine Br.y1 ?_ | refine Br.n1 ?_); conv => whnf))
       exact ⟨rfl, congrArg Value.bool (by show false = (a == 48 && !(b == 46)); rw [h48]; rfl)⟩
theorem cut_val (l : List UInt8) (c : UInt8) : cutF l c = .tuple #[sv (cut1 c l), sv (cut2 c l), .bool (cutQ c l)] := by
 unfold cutF cut1 cut2 cutQ
 show (match idxL c.toNat l 0 with
  | some i => Value.tuple #[sv (l.take i), sv (l.drop (i + 1)), .bool true]
  | none => .tuple #[sv l, sv [], .bool false]) = _
 cases idxL c.toNat l 0 <;> rfl
theorem cut1_len (c : UInt8) (l : List UInt8) : (cut1 c l).length ≤ l.length := by
 unfold cut1; split <;> simp; omega
theorem cut2_len (c : UInt8) (l : List UInt8) : (cut2 c l).length ≤ l.length := by
 unfold cut2; split <;> simp
theorem readD_c (l : List UInt8) : (readD l).1.c < w128 := by
 unfold readD
 split
 · decide
 · split
   · decide
   · split
     · decide
     · rename_i h _
       exact Nat.lt_trans (Nat.lt_of_not_le h) (by decide)
theorem one_spec {z : St} (wf : WF z) (hg : Gs z) (l : List UInt8) (hl : l.length ≤ 281474976710656) :
  Cw Tryz.prog 59 [sv l] z fun r s' => K0 z s' ∧ r = .tuple #[(oneF l).1.val, .int .i64 (oneF l).2] := by
 have hp : Hp (fun _ => False) z [] [] z := Hp.start _ wf _ (by simp)
 have hA := cut1_len 58 l
 have hR := cut2_len 58 l
 have hB := cut1_len 64 (cut2 58 l)
 have hW := cut2_len 64 (cut2 58 l)
 have hone : oneF l = (if (!cutQ 58 l || (decide (smallF (cut1 58 l) < 0) || (cutQ 64 (cut2 58 l) && decide (smallF (cut2 64 (cut2 58 l)) < 0)))) = true then (Ln.zero, 2) else
  if (((readD (cut1 64 (cut2 58 l))).2 == 0 && !(printF (readD (cut1 64 (cut2 58 l))).1 == cut1 64 (cut2 58 l))) || lessN (cut1 64 (cut2 58 l))) = true then (Ln.zero, 2) else
  (⟨smallF (cut1 58 l), (readD (cut1 64 (cut2 58 l))).1, if cutQ 64 (cut2 58 l) = true then smallF (cut2 64 (cut2 58 l)) else -1⟩, (readD (cut1 64 (cut2 58 l))).2)) := rfl
 rw [hone]
 clear hone
 refine Cw.enterS Tryz.func59 rfl rfl ?_
 refine Sm.seqW ?_
 conv => whnf
 refine hp.alloc (cs := Ln.zero.cells) (e := 6) rfl rfl rfl rfl rfl ?_
 clear hp
 intro p2 s hp _
 conv => whnf
 refine Sm.live [0, 2] ?_
 conv => whnf
 refine Sm.seqW ?_
 conv => whnf
 refine (cut_spec _ l (by omega) 58).mono ?_
 rintro _ s1 ⟨h1, rfl⟩
 obtain rfl := h1.symm
 conv => whnf
 rw [cut_val]
 generalize cut1 58 l = A at *
 generalize cut2 58 l = R at *
 generalize cutQ 58 l = qA at *
 conv => whnf
 refine Sm.live [2, 4, 5, 6] ?_
 conv => whnf
 refine Sm.seqW ?_
 conv => whnf
 refine (cut_spec _ R (by omega) 64).mono ?_
 rintro _ s1 ⟨h1, rfl⟩
 obtain rfl := h1.symm
 conv => whnf
 rw [cut_val]
 generalize cut1 64 R = B at *
 generalize cut2 64 R = W at *
 generalize cutQ 64 R = qW at *
 conv => whnf
 refine Sm.live [2, 4, 6, 7, 8, 9] ?_
 conv => whnf
 refine Sm.seqW ?_
 conv => whnf
 refine hp.alloc (cs := Ln.zero.cells) (e := 6) rfl rfl rfl rfl rfl ?_
 clear hp
 intro p10 s hp _
 conv => whnf
 refine hp.storeW (vs := (Ln.mk 0 Dc.zero (-1)).cells) rfl .d csx rfl rfl rfl ?_
 clear hp
 intro s hp _
 conv => whnf
 refine Sm.live [2, 4, 6, 7, 8, 9, 10] ?_
 conv => whnf
 refine Sm.seqW ?_
 conv => whnf
 refine Sm.live [2, 4, 6, 7, 8, 9, 10, 12] ?_
 conv => whnf
 refine Sm.seqW ?_
 conv => whnf
 refine hp.call (eshort_spec hp.wf (hg.keep hp.fr) A (by omega)) ?_
 clear hp
 rintro _ s ⟨n, rfl, hn⟩ hp _
 conv => whnf
 refine hp.store (off := 0) .d (by show 0 < 6; decide) rfl rfl rfl rfl ?_
 clear hp
 intro s hp _
 replace hp : Hp (fun _ => False) z [] [blkA p10 p10 (Ln.mk n Dc.zero (-1)).cells 6, blkA p2 p2 Ln.zero.cells 6] s := hp
 conv => whnf
 refine Sm.live [2, 6, 7, 8, 9, 10, 11, 12] ?_
 conv => whnf
 refine Sm.seqC (fun e L' s' => e = .normal ∧ ∃ w b, Hp (fun _ => False) z [] [blkA p10 p10 (Ln.mk n Dc.zero w).cells 6, blkA p2 p2 Ln.zero.cells 6] s' ∧ (qW = true → b = decide (¬ smallF W < 0) ∧ (b = true → w = smallF W)) ∧ (qW = false → w = -1) ∧ Sub [(2, .pointer (some ⟨p2, 0, none⟩)), (6, .bool qA), (7, sv B), (9, .bool qW), (10, .pointer (some ⟨p10, 0, none⟩)), (11, .bool (decide (¬ smallF A < 0))), (12, .bool b)] L') ?_ ?_
 · conv => whnf
   cases qW with
   | true =>
     repeat ((first | refine Br.y1 ?_ | refine Br.n1 ?_); conv => whnf)
     refine hp.call (eshort_spec hp.wf (hg.keep hp.fr) W (by omega)) ?_
     clear hp
     rintro _ s ⟨w, rfl, hw⟩ hp _
     conv => whnf
     refine hp.store (off := 5) .d (by show 5 < 6; decide) rfl rfl rfl rfl ?_
     clear hp
     intro s hp _
     replace hp : Hp (fun _ => False) z [] [blkA p10 p10 (Ln.mk n Dc.zero w).cells 6, blkA p2 p2 Ln.zero.cells 6] s := hp
     conv => whnf
     exact ⟨rfl, w, _, hp, fun _ => ⟨rfl, fun h => hw (of_decide_eq_true h)⟩, fun h => (by cases h), subK_ok ⟨rfl, rfl, rfl, rfl, rfl, rfl, rfl, trivial⟩⟩
   | false =>
     repeat ((first | refine Br.y1 ?_ | refine Br.n1 ?_); conv => whnf)
     exact ⟨rfl, -1, false, hp, fun h => (by cases h), fun _ => rfl, subK_ok ⟨rfl, rfl, rfl, rfl, rfl, rfl, rfl, trivial⟩⟩
 clear hp
 rintro e L' s ⟨rfl, w, b, hp, hb, hw1, hs⟩
 refine Sm.weak _ hs ?_
 clear hs
 obtain ⟨bad, hbad⟩ : ∃ bad, bad = (!qA || (decide (smallF A < 0) || (qW && decide (smallF W < 0)))) := ⟨_, rfl⟩
 rw [← hbad]
 refine Sm.seq ?_
 refine Sm.seqC (fun e L' s' => e = .normal ∧ s' = s ∧ Sub [(2, .pointer (some ⟨p2, 0, none⟩)), (7, sv B), (10, .pointer (some ⟨p10, 0, none⟩)), (52, .bool bad)] L') ?_ ?_
 · conv => whnf
   repeat' (first | (refine Br.yes (by first | with_reducible rfl | with_reducible assumption) ?_; conv => whnf) | (refine Br.no (by first | with_reducible rfl | with_reducible assumption) ?_; conv => whnf) | (refine Br.mk (fun hq => ?_) (fun hq => ?_) <;> conv => whnf))
   all_goals refine ⟨rfl, rfl, subK_ok ⟨rfl, rfl, rfl, congrArg (fun x => some (Value.bool x)) ?_, trivial⟩⟩
   all_goals rw [hbad]
   all_goals simp_all
   all_goals (rw [Bool.eq_iff_iff]; simp; omega)
 rintro e L' s' ⟨rfl, rfl, hs⟩
 refine Sm.weak _ hs ?_
 clear hs
 refine Sm.ofW ?_
 conv => whnf
 cases bad with
 | true =>
   repeat ((first | refine Br.y1 ?_ | refine Br.n1 ?_); conv => whnf)
   refine hp.storeW (vs := Ln.zero.cells) rfl .d csx rfl rfl rfl ?_
   clear hp
   intro s hp _
   conv => whnf
   refine hp.loadA (l := Ln.zero.cells) .d rfl (by rfl) rfl rfl ?_
   conv => whnf
   exact ⟨hp.fr, by rw [if_pos rfl]; rfl⟩
 | false =>
   rw [if_neg (by decide)]
   have hA0 : ¬ smallF A < 0 := by
    intro h
    rw [decide_eq_true h] at hbad; simp at hbad
   have hn := hn hA0
   subst hn
   have hwv : w = if qW = true then smallF W else -1 := by
    cases qW with
    | false => rw [if_neg (by decide)]; exact hw1 rfl
    | true =>
      rw [if_pos rfl]
      have hW0 : ¬ smallF W < 0 := by
       intro h
       rw [decide_eq_true h] at hbad; simp at hbad
      exact (hb rfl).2 (by rw [(hb rfl).1]; exact decide_eq_true hW0)
   rw [← hwv]
   clear hb hw1 hbad hwv
   repeat ((first | refine Br.y1 ?_ | refine Br.n1 ?_); conv => whnf)
   refine Sm.seqW ?_
   conv => whnf
   refine Sm.live [2, 7, 10] ?_
   conv => whnf
   refine Sm.seqW ?_
   conv => whnf
   refine hp.call (read_spec hp.wf B (by omega)) ?_
   clear hp
   rintro _ s rfl hp _
   conv => whnf
   rw [readF_D]
   have hdc := readD_c B
   generalize readD B = d at *
   obtain ⟨d, e⟩ := d
   simp only at hdc ⊢
   conv => whnf
   refine hp.storeA (off := 1) (vs := d.cells) rfl .d (by show 1 + 4 ≤ 6; decide) rfl rfl rfl ?_
   clear hp
   intro s hp _
   replace hp : Hp (fun _ => False) z [] [blkA p10 p10 (Ln.mk (smallF A) d w).cells 6, blkA p2 p2 Ln.zero.cells 6] s := hp
   conv => whnf
   refine Sm.live [2, 7, 10, 13] ?_
   conv => whnf
   refine Sm.seq ?_
   refine Sm.seqC (fun e' L' s' => e' = .normal ∧ Hp (fun _ => False) z [] [blkA p10 p10 (Ln.mk (smallF A) d w).cells 6, blkA p2 p2 Ln.zero.cells 6] s' ∧ Sub [(2, .pointer (some ⟨p2, 0, none⟩)), (10, .pointer (some ⟨p10, 0, none⟩)), (13, .int .i64 e), (72, .bool ((e == 0 && !(printF d == B)) || lessN B))] L') ?_ ?_
   · conv => whnf
     cases he : e == 0 with
     | true =>
       repeat (first | (refine Br.yes he ?_; conv => whnf) | ((first | refine Br.y1 ?_ | refine Br.n1 ?_); conv => whnf))
       refine hp.loadA (l := d.cells) .d rfl (by rfl) rfl rfl ?_
       conv => whnf
       repeat (first | (refine Br.yes he ?_; conv => whnf) | ((first | refine Br.y1 ?_ | refine Br.n1 ?_); conv => whnf))
       refine hp.call (print_spec hp.wf d hdc) ?_
       clear hp
       rintro _ s rfl hp _
       conv => whnf
       repeat (first | (refine Br.yes he ?_; conv => whnf) | ((first | refine Br.y1 ?_ | refine Br.n1 ?_); conv => whnf))
       refine Om.of _ (sv_ne (printF d) B) ?_
       conv => whnf
       cases hq : printF d == B with
       | true =>
         repeat (first | (refine Br.yes he ?_; conv => whnf) | ((first | refine Br.y1 ?_ | refine Br.n1 ?_); conv => whnf))
         refine (needless_spec _ B).mono ?_
         rintro _ s1 ⟨h1, rfl⟩
         obtain rfl := h1.symm
         conv => whnf
         repeat (first | (refine Br.yes he ?_; conv => whnf) | ((first | refine Br.y1 ?_ | refine Br.n1 ?_); conv => whnf))
         exact ⟨rfl, hp, subK_ok ⟨rfl, rfl, rfl, rfl, trivial⟩⟩
       | false =>
         repeat (first | (refine Br.yes he ?_; conv => whnf) | ((first | refine Br.y1 ?_ | refine Br.n1 ?_); conv => whnf))
         exact ⟨rfl, hp, subK_ok ⟨rfl, rfl, rfl, rfl, trivial⟩⟩
     | false =>
       repeat (first | (refine Br.no he ?_; conv => whnf) | ((first | refine Br.y1 ?_ | refine Br.n1 ?_); conv => whnf))
       refine (needless_spec _ B).mono ?_
       rintro _ s1 ⟨h1, rfl⟩
       obtain rfl := h1.symm
       conv => whnf
       repeat (first | (refine Br.no he ?_; conv => whnf) | ((first | refine Br.y1 ?_ | refine Br.n1 ?_); conv => whnf))
       exact ⟨rfl, hp, subK_ok ⟨rfl, rfl, rfl, rfl, trivial⟩⟩
   clear hp
   rintro e' L' s ⟨rfl, hp, hs⟩
   refine Sm.weak _ hs ?_
   clear hs
   refine Sm.ofW ?_
   conv => whnf
   cases hq : (e == 0 && !(printF d == B)) || lessN B with
   | true =>
     rw [if_pos rfl]
     repeat (first | (refine Br.yes hq ?_; conv => whnf) | ((first | refine Br.y1 ?_ | refine Br.n1 ?_); conv => whnf))
     refine hp.storeW (vs := Ln.zero.cells) rfl .d csx rfl rfl rfl ?_
     clear hp
     intro s hp _
     conv => whnf
     refine hp.loadA (l := Ln.zero.cells) .d rfl (by rfl) rfl rfl ?_
     conv => whnf
     exact ⟨hp.fr, rfl⟩
   | false =>
     rw [if_neg (by decide)]
     repeat (first | (refine Br.no hq ?_; conv => whnf) | ((first | refine Br.y1 ?_ | refine Br.n1 ?_); conv => whnf))
     refine Sm.seqW ?_
     conv => whnf
     refine hp.loadA (l := (Ln.mk (smallF A) d w).cells) .d rfl (by rfl) rfl rfl ?_
     conv => whnf
     refine hp.storeW (vs := (Ln.mk (smallF A) d w).cells) rfl .d csx rfl rfl rfl ?_
     clear hp
     intro s hp _
     conv => whnf
     refine Sm.live [2, 3] ?_
     conv => whnf
     refine Sm.ofW ?_
     conv => whnf
     refine hp.loadA (l := (Ln.mk (smallF A) d w).cells) .d rfl (by rfl) rfl rfl ?_
     conv => whnf
     exact ⟨hp.fr, rfl⟩
end

/- entry.Read walked. No condition. -/
section
variable [Lk]
def worstF (T : List (List UInt8)) : Int := if (T.any fun t => !((oneF t).2 == 0)) = true then 3 else 0
theorem worst_snoc (T : List (List UInt8)) (t : List UInt8) (h : (oneF t).2 ≠ 2) : worstF (T ++ [t]) = if worstF T < (oneF t).2 then (oneF t).2 else worstF T := by
 unfold worstF
 rw [List.any_append, List.any_cons, List.any_nil, Bool.or_false]
 have he : (oneF t).2 = 0 ∨ (oneF t).2 = 3 := by
  rcases oneF_e t with g | g | g
  · exact .inl g
  · exact absurd g h
  · exact .inr g
 cases (T.any fun t => !((oneF t).2 == 0)) with
 | true =>
   rcases he with g | g <;> rw [g] <;> decide
 | false =>
   rcases he with g | g <;> rw [g] <;> decide
theorem readL_len (l : List UInt8) : (readL l).1.length ≤ 8 := by
 unfold readL
 split
 · simp
 · split
   · simp
   · split
     · simp
     · simp; omega
theorem eread_spec {z : St} (wf : WF z) (hg : Gs z) (l : List UInt8) (hl : l.length ≤ 10000000000000) :
  Cw Tryz.prog 19 [sv l] z fun r s' => K0 z s' ∧ ∃ w, r = .tuple #[w, .int .i64 (readL l).2] ∧ OwnN z.next s' w 6 (readL l).1.length (lnC (readL l).1) := by
 have hp : Hp (fun _ => False) z [] [] z := Hp.start _ wf _ (by simp)
 have hml : ∀ w ∈ splitL 44 l, w.length ≤ l.length := fun w hw => mem_split_len hw
 have hread : readL l = (if 8 < (splitL 44 l).length then ([], 2) else
  if ((splitL 44 l).any fun t => (oneF t).2 == 2) = true then ([], 2) else
  if ((splitL 44 l).any fun t => !((oneF t).2 == 0)) = true then ([], 3) else ((splitL 44 l).map fun t => (oneF t).1, 0)) := rfl
 rw [hread]
 clear hread
 refine Cw.enterS Tryz.func19 rfl rfl ?_
 refine Sm.seqW ?_
 conv => whnf
 refine Sm.live [0] ?_
 conv => whnf
 refine Sm.seqW ?_
 conv => whnf
 refine hp.callO (split_spec hp.wf l hl 44) ?_
 clear hp
 intro w κ s hp _
 generalize splitL 44 l = T at *
 obtain ⟨a, cp, rfl⟩ := (hp.slF (κ := κ) (v := w) .d).shape
 conv => whnf
 refine Sm.live [4] ?_
 conv => whnf
 refine Sm.seq ?_
 refine Sm.seqW ?_
 conv => whnf
 refine Sm.live [4, 15] ?_
 conv => whnf
 refine Sm.ofW ?_
 conv => whnf
 by_cases h8 : 8 < T.length
 · rw [if_pos h8]
   have q : decide (((T.length : Nat) : Int) > 8) = true := decide_eq_true (by omega)
   refine Br.yes q ?_
   conv => whnf
   exact ⟨hp.fr, _, rfl, ⟨.inl ⟨rfl, rfl, rfl⟩⟩⟩
 rw [if_neg h8]
 refine Br.no (decide_eq_false (by omega)) ?_
 conv => whnf
 refine Sm.seqW ?_
 conv => whnf
 refine Sm.live [4, 5] ?_
 conv => whnf
 refine Sm.seqW ?_
 conv => whnf
 refine Sm.live [4, 5, 6] ?_
 conv => whnf
 refine Sm.seq ?_
 refine Sm.seqW ?_
 conv => whnf
 refine Sm.live [5, 6, 16, 17, 18] ?_
 conv => whnf
 refine Sm.block ?_
 refine Sm.loop ?_
 refine Lp.ofS (α := Nat × Option Nat × Value) (fun x => [(5, x.2.2), (6, .int .i64 (worstF (T.take x.1))), (16, .slice a T.length cp), (17, .int .i64 ((T.length : Nat) : Int)), (18, .int .i64 (x.1 : Int))])
  (fun x s' => x.1 ≤ T.length ∧ (∀ t ∈ T.take x.1, (oneF t).2 ≠ 2) ∧ Hp (fun _ => False) z [] [onA x.2.1 x.2.2 6 x.1 (lnC ((T.take x.1).map fun t => (oneF t).1)), onA κ (.slice a T.length cp) 1 T.length (T.map sv)] s') (fun x => T.length - x.1) ?_ (0, none, .slice none 0 0) (subK_ok (by refine ⟨rfl, rfl, rfl, rfl, rfl, trivial⟩)) ⟨Nat.zero_le _, fun t ht => (by cases ht), (hp.nilA 6).pik (by repeat (first | exact Pik.nil | exact Pik.refl _ | exact Rm.here | apply Rm.there | apply Pik.cons | apply Pik.skip))⟩
 clear hp
 rintro ⟨i, κo, vo⟩ s ⟨hi, hno, hp⟩
 simp only at hi hno hp
 refine Sm.seqW ?_
 conv => whnf
 refine Sm.live [5, 6, 16, 17, 18, 19] ?_
 conv => whnf
 refine Sm.seq ?_
 refine Sm.ofW ?_
 conv => whnf
 refine Br.mk (fun hc => ?_) (fun hc => ?_)
 · have hc : i < T.length := by have : (i : Int) < ((T.length : Nat) : Int) := of_decide_eq_true hc; omega
   obtain ⟨e, g1, g2⟩ := index_sv (hp.slF (κ := κ) (v := .slice a T.length cp) .d) .i64 hc
   have htk : T.take (i + 1) = T.take i ++ [T[i]] := List.take_succ_eq_append_getElem hc
   have hmem : T[i] ∈ T := List.getElem_mem hc
   have hlt := hml _ hmem
   generalize hw : T[i] = t at *
   conv => whnf
   refine Sm.seq ?_
   refine Sm.block ?_
   refine Sm.seqW ?_
   conv => whnf
   refine Om.of _ (g1) ?_
   conv => whnf
   refine Om.of _ (g2) ?_
   conv => whnf
   refine Sm.live [5, 6, 8, 16, 17, 18] ?_
   conv => whnf
   refine Sm.seqW ?_
   conv => whnf
   refine hp.call (one_spec hp.wf (hg.keep hp.fr) t (by omega)) ?_
   clear hp
   rintro _ s rfl hp _
   conv => whnf
   have hwo := worst_snoc (T.take i) t
   refine hp.alloc (cs := Ln.zero.cells) (e := 6) rfl rfl rfl rfl rfl ?_
   clear hp
   intro p9 s hp _
   conv => whnf
   refine hp.storeW (vs := (oneF t).1.cells) rfl .d csx rfl rfl rfl ?_
   clear hp
   intro s hp _
   conv => whnf
   refine Sm.live [5, 6, 9, 10, 16, 17, 18] ?_
   conv => whnf
   refine Sm.seq ?_
   refine Sm.seqW ?_
   conv => whnf
   refine Sm.ofW ?_
   conv => whnf
   by_cases h2 : (oneF t).2 = 2
   · have q : ((oneF t).2 == 2) = true := beq_iff_eq.2 h2
     refine Br.yes q ?_
     conv => whnf
     have hany : (T.any fun t => (oneF t).2 == 2) = true := List.any_eq_true.2 ⟨t, hmem, q⟩
     rw [if_pos hany]
     exact ⟨hp.fr, _, by rw [h2]; rfl, ⟨.inl ⟨rfl, rfl, rfl⟩⟩⟩
   · have q : ((oneF t).2 == 2) = false := beq_eq_false_iff_ne.2 h2
     refine Br.no q ?_
     conv => whnf
     refine Sm.seqW ?_
     conv => whnf
     refine Sm.live [5, 6, 9, 16, 17, 18] ?_
     conv => whnf
     refine Sm.ofW ?_
     conv => whnf
     refine hp.loadA (l := (oneF t).1.cells) .d rfl (by rfl) rfl rfl ?_
     conv => whnf
     refine hp.lit (cs := (oneF t).1.cells) (e := 6) (by rfl) ?_
     clear hp
     intro b4 s4 hp _
     conv => whnf
     have x4 := hp.blkSl (n := 1) (C := (oneF t).1.cells) (k := b4) (b := b4) (e := 6) .d rfl
     refine hp.app LT Tryz.underlying24 rfl (κ := κo) (v := vo) .d (elems_sl x4) rfl rfl (by omega) ?_
     clear hp x4
     intro v5 κ5 s hp
     have e1 : lnC ((T.take i).map fun t => (oneF t).1) ++ (oneF t).1.cells = lnC ((T.take (i + 1)).map fun t => (oneF t).1) := by
      rw [htk, List.map_append, lnC_app]; simp [lnC]
     rw [e1] at hp
     conv => whnf
     refine Sm.ofW ?_
     conv => whnf
     exact ⟨(i + 1, κ5, v5), by (show T.length - (i + 1) < T.length - i); omega, subK_ok (by refine ⟨rfl, congrArg (fun x => some (Value.int .i64 x)) (by show (if (oneF t).2 > worstF (T.take i) then (oneF t).2 else worstF (T.take i)) = worstF (T.take (i + 1)); rw [htk]; exact (hwo h2).symm), rfl, rfl, congrArg (fun x => some (Value.int .i64 x)) (show IntKind.i64.wrap ((i : Int) + 1) = ((i + 1 : Nat) : Int) by rw [wi64 (by omega) (by omega)]; omega), trivial⟩), by (show i + 1 ≤ T.length); omega, fun t' ht' => by
      have ht' : t' ∈ T.take (i + 1) := ht'
      rw [htk] at ht'
      rcases List.mem_append.1 ht' with g | g
      · exact hno t' g
      · obtain rfl := List.mem_singleton.1 g; exact h2, hp.pik (by repeat (first | exact Pik.nil | exact Pik.refl _ | exact Rm.here | apply Rm.there | apply Pik.cons | apply Pik.skip))⟩
 · have hc : i = T.length := by have : ¬ (i : Int) < ((T.length : Nat) : Int) := of_decide_eq_false hc; omega
   subst hc
   rw [List.take_length] at hno hp
   have hno2 : ¬ (T.any fun t => (oneF t).2 == 2) = true := fun h => by
    obtain ⟨t, h1, h2⟩ := List.any_eq_true.1 h
    exact hno t h1 (beq_iff_eq.1 h2)
   rw [if_neg hno2]
   conv => whnf
   refine Sm.seq ?_
   refine Sm.seqW ?_
   conv => whnf
   refine Sm.ofW ?_
   conv => whnf
   show Br (!(worstF (T.take T.length) == 0)) _ _
   rw [List.take_length]
   unfold worstF
   cases hq : (T.any fun t => !((oneF t).2 == 0)) with
   | true =>
     rw [if_pos rfl]
     repeat ((first | refine Br.y1 ?_ | refine Br.n1 ?_); conv => whnf)
     exact ⟨hp.fr, _, rfl, ⟨.inl ⟨rfl, rfl, rfl⟩⟩⟩
   | false =>
     rw [if_neg (by decide)]
     repeat ((first | refine Br.y1 ?_ | refine Br.n1 ?_); conv => whnf)
     refine Sm.seqW ?_
     conv => whnf
     refine Sm.live [2, 3] ?_
     conv => whnf
     refine Sm.ofW ?_
     conv => whnf
     refine ⟨hp.fr, vo, rfl, ?_⟩
     have := hp.out .d
     show OwnN z.next s vo 6 (T.map fun t => (oneF t).1).length (lnC (T.map fun t => (oneF t).1))
     rw [List.length_map]
     exact this
end

/- entry.Print and Turned walked. No condition. -/
section
variable [Lk]
theorem sv_add {P : Program} {t : TypeId} {c : Bool} (a b : List UInt8) (h : a.length + b.length ≤ 281474976710656) : evBin P .add t c (sv a) (sv b) = some (sv (a ++ b)) := str_add _ _ h
structure MemLn (x : Ln) : Prop where
 acct : x.acct < 100
 wth : x.wth < 100
 amt : x.amt.c < w128
theorem print_le (d : Dc) : (printF d).length ≤ 32 := by
 cases h : d.right with
 | true => exact print_len h
 | false => rw [print_nil.2 h]; decide
theorem itoa_le (k : Nat) : (itoaF k).length ≤ 2 := by rw [itoaF_len]; split <;> omega
theorem line_le (x : Ln) : (lineT x).length ≤ 38 := by
 have h1 := itoa_le x.acct.toNat
 have h2 := itoa_le x.wth.toNat
 have h3 := print_le x.amt
 unfold lineT
 simp only [List.length_append, List.length_cons]
 split <;> simp <;> omega
theorem lines_le : ∀ ls : List Ln, (joinL 44 (ls.map lineT)).length ≤ 40 * ls.length
 | [] => by simp [joinL]
 | x :: r => by
   have h1 := line_le x
   have : ∀ r : List Ln, ((r.map lineT).flatMap fun w => (44 : UInt8) :: w).length ≤ 39 * r.length := by
    intro r
    induction r with
    | nil => simp
    | cons y r ih =>
      have := line_le y
      simp only [List.map_cons, List.flatMap_cons, List.length_append, List.length_cons]; omega
   have h2 := this r
   show (lineT x ++ ((r.map lineT).flatMap fun w => (44 : UInt8) :: w)).length ≤ _
   simp only [List.length_append, List.length_cons]; omega
theorem eprint_spec {z : St} (wf : WF z) {κ : Option Nat} {v : Value} {ls : List Ln} (hv : Sln z κ v ls) (hok : ∀ x ∈ ls, MemLn x) (hl : ls.length ≤ 1000) :
  Cw Tryz.prog 22 [v] z fun r s' => K0 z s' ∧ r = sv (printL ls) := by
 obtain ⟨a, cp, rfl⟩ := hv.shape
 have hp : Hp (fun _ => False) z [slA κ (.slice a ls.length cp) 6 ls.length (lnC ls)] [] z := Hp.start _ wf _ (by simp; exact hv)
 refine Cw.enterS Tryz.func22 rfl rfl ?_
 refine Sm.seqW ?_
 conv => whnf
 refine Sm.live [0] ?_
 conv => whnf
 refine Sm.seqW ?_
 conv => whnf
 refine Sm.live [0, 3] ?_
 conv => whnf
 refine Sm.seq ?_
 refine Sm.seqW ?_
 conv => whnf
 refine Sm.live [3, 8, 9, 10] ?_
 conv => whnf
 refine Sm.block ?_
 refine Sm.loop ?_
 refine Lp.ofS (α := Nat × Option Nat × Value) (fun x => [(3, x.2.2), (8, .slice a ls.length cp), (9, .int .i64 ((ls.length : Nat) : Int)), (10, .int .i64 (x.1 : Int))])
  (fun x s' => x.1 ≤ ls.length ∧ (ls.take x.1).any badLn = false ∧ Hp (fun _ => False) z [slA κ (.slice a ls.length cp) 6 ls.length (lnC ls)] [onA x.2.1 x.2.2 1 x.1 ((ls.take x.1).map fun y => sv (lineT y))] s') (fun x => ls.length - x.1) ?_ (0, none, .slice none 0 0) (subK_ok (by refine ⟨rfl, rfl, rfl, rfl, trivial⟩)) ⟨Nat.zero_le _, rfl, (hp.nilA 1).pik (by repeat (first | exact Pik.nil | exact Pik.refl _ | exact Rm.here | apply Rm.there | apply Pik.cons | apply Pik.skip))⟩
 clear hp
 rintro ⟨i, κo, vo⟩ s ⟨hi, hno, hp⟩
 simp only at hi hno hp
 refine Sm.seqW ?_
 conv => whnf
 refine Sm.live [3, 8, 9, 10, 11] ?_
 conv => whnf
 refine Sm.seq ?_
 refine Sm.ofW ?_
 conv => whnf
 refine Br.mk (fun hc => ?_) (fun hc => ?_)
 · have hc : i < ls.length := by have : (i : Int) < ((ls.length : Nat) : Int) := of_decide_eq_true hc; omega
   obtain ⟨e, g1, g2⟩ := index_ln (hp.slR (κ := κ) (v := .slice a ls.length cp) .here) .i64 hc
   have htk : ls.take (i + 1) = ls.take i ++ [ls[i]] := List.take_succ_eq_append_getElem hc
   have hmem : ls[i] ∈ ls := List.getElem_mem hc
   have hm := hok _ hmem
   generalize hw : ls[i] = x at *
   conv => whnf
   refine Sm.seq ?_
   refine Sm.block ?_
   refine Sm.seqW ?_
   conv => whnf
   refine Om.of _ (g1) ?_
   conv => whnf
   refine Om.of _ (g2) ?_
   conv => whnf
   refine hp.alloc (cs := Ln.zero.cells) (e := 6) rfl rfl rfl rfl rfl ?_
   clear hp
   intro p5 s hp _
   conv => whnf
   refine hp.storeW (vs := x.cells) rfl .d csx rfl rfl rfl ?_
   clear hp
   intro s hp _
   conv => whnf
   refine Sm.live [3, 5, 8, 9, 10] ?_
   conv => whnf
   refine Sm.seqW ?_
   conv => whnf
   refine hp.loadA (l := x.amt.cells) .d rfl (by rfl) rfl rfl ?_
   conv => whnf
   refine hp.call (print_spec hp.wf x.amt hm.amt) ?_
   clear hp
   rintro _ s rfl hp _
   conv => whnf
   have hpl := print_le x.amt
   refine Sm.live [3, 5, 6, 8, 9, 10] ?_
   conv => whnf
   refine Sm.seq ?_
   refine Sm.seqC (fun e' L' s' => e' = .normal ∧ s' = s ∧ Sub [(3, vo), (5, .pointer (some ⟨p5, 0, none⟩)), (6, sv (printF x.amt)), (8, .slice a ls.length cp), (9, .int .i64 ((ls.length : Nat) : Int)), (10, .int .i64 (i : Int)), (28, .bool (badLn x))] L') ?_ ?_
   · conv => whnf
     unfold badLn
     refine hp.load (v := .int .i64 x.acct) .d (by rfl) rfl rfl rfl ?_
     conv => whnf
     by_cases h1 : x.acct < 0
     · have q1 : decide (x.acct < 0) = true := decide_eq_true h1
       repeat (first | (refine Br.yes q1 ?_; conv => whnf) | ((first | refine Br.y1 ?_ | refine Br.n1 ?_); conv => whnf))
       exact ⟨rfl, rfl, subK_ok ⟨rfl, rfl, rfl, rfl, rfl, rfl, congrArg (fun x => some (Value.bool x)) (by rw [q1]; rfl), trivial⟩⟩
     have q1 : decide (x.acct < 0) = false := decide_eq_false h1
     repeat (first | (refine Br.no q1 ?_; conv => whnf) | ((first | refine Br.y1 ?_ | refine Br.n1 ?_); conv => whnf))
     refine hp.load (v := .int .i64 x.wth) .d (by rfl) rfl rfl rfl ?_
     conv => whnf
     repeat (first | (refine Br.no q1 ?_; conv => whnf) | ((first | refine Br.y1 ?_ | refine Br.n1 ?_); conv => whnf))
     by_cases h2 : x.wth < -1
     · have q2 : decide (x.wth < -1) = true := decide_eq_true h2
       repeat (first | (refine Br.no q1 ?_; conv => whnf) | (refine Br.yes q2 ?_; conv => whnf) | ((first | refine Br.y1 ?_ | refine Br.n1 ?_); conv => whnf))
       exact ⟨rfl, rfl, subK_ok ⟨rfl, rfl, rfl, rfl, rfl, rfl, congrArg (fun x => some (Value.bool x)) (by rw [q1, q2]; rfl), trivial⟩⟩
     have q2 : decide (x.wth < -1) = false := decide_eq_false h2
     repeat (first | (refine Br.no q1 ?_; conv => whnf) | (refine Br.no q2 ?_; conv => whnf) | ((first | refine Br.y1 ?_ | refine Br.n1 ?_); conv => whnf))
     refine Om.of _ (sv_eq (printF x.amt) []) ?_
     conv => whnf
     repeat (first | (refine Br.no q1 ?_; conv => whnf) | (refine Br.no q2 ?_; conv => whnf) | ((first | refine Br.y1 ?_ | refine Br.n1 ?_); conv => whnf))
     exact ⟨rfl, rfl, subK_ok ⟨rfl, rfl, rfl, rfl, rfl, rfl, congrArg (fun x => some (Value.bool x)) (by rw [q1, q2]; rfl), trivial⟩⟩
   rintro e L' s' ⟨rfl, rfl, hs⟩
   refine Sm.weak _ hs ?_
   clear hs
   refine Sm.ofW ?_
   conv => whnf
   cases hbad : badLn x with
   | true =>
     repeat (first | (refine Br.yes hbad ?_; conv => whnf) | ((first | refine Br.y1 ?_ | refine Br.n1 ?_); conv => whnf))
     refine ⟨hp.fr, ?_⟩
     have : ls.any badLn = true := List.any_eq_true.2 ⟨x, hmem, hbad⟩
     unfold printL
     rw [if_pos this]; rfl
   | false =>
     repeat (first | (refine Br.no hbad ?_; conv => whnf) | ((first | refine Br.y1 ?_ | refine Br.n1 ?_); conv => whnf))
     have hb2 := hbad
     unfold badLn at hb2
     simp only [Bool.or_eq_false_iff, decide_eq_false_iff_not] at hb2
     obtain ⟨h1, h2, h3⟩ := hb2
     obtain ⟨k, hk⟩ : ∃ k : Nat, x.acct = k := ⟨x.acct.toNat, by omega⟩
     have hk1 : k < 100 := by have := hm.acct; omega
     have hil := itoa_le k
     refine Sm.seqW ?_
     conv => whnf
     refine hp.load (v := .int .i64 x.acct) .d (by rfl) rfl rfl rfl ?_
     conv => whnf
     rw [hk]
     refine (itoa2_spec _ hk1).mono ?_
     rintro _ s1 ⟨h1, rfl⟩
     obtain rfl := h1.symm
     conv => whnf
     refine Om.of _ (sv_add (itoaF k) [58] (by simp; omega)) ?_
     conv => whnf
     refine Om.of _ (sv_add (itoaF k ++ [58]) (printF x.amt) (by simp; omega)) ?_
     conv => whnf
     refine Sm.live [3, 5, 7, 8, 9, 10] ?_
     conv => whnf
     refine Sm.seqC (fun e' L' s'' => e' = .normal ∧ s'' = s' ∧ Sub [(3, vo), (7, sv (lineT x)), (8, .slice a ls.length cp), (9, .int .i64 ((ls.length : Nat) : Int)), (10, .int .i64 (i : Int))] L') ?_ ?_
     · conv => whnf
       refine hp.load (v := .int .i64 x.wth) .d (by rfl) rfl rfl rfl ?_
       conv => whnf
       by_cases hw0 : 0 ≤ x.wth
       · have q1 : decide (x.wth ≥ 0) = true := decide_eq_true hw0
         obtain ⟨j, hj⟩ : ∃ j : Nat, x.wth = j := ⟨x.wth.toNat, by omega⟩
         have hj1 : j < 100 := by have := hm.wth; omega
         have hjl := itoa_le j
         repeat (first | (refine Br.yes q1 ?_; conv => whnf) | ((first | refine Br.y1 ?_ | refine Br.n1 ?_); conv => whnf))
         refine hp.load (v := .int .i64 x.wth) .d (by rfl) rfl rfl rfl ?_
         conv => whnf
         rw [hj]
         refine (itoa2_spec _ hj1).mono ?_
         rintro _ s1 ⟨h1, rfl⟩
         obtain rfl := h1.symm
         conv => whnf
         refine Om.of _ (sv_add [64] (itoaF j) (by simp; omega)) ?_
         conv => whnf
         refine Om.of _ (sv_add (itoaF k ++ [58] ++ printF x.amt) ([64] ++ itoaF j) (by simp; omega)) ?_
         conv => whnf
         exact ⟨rfl, rfl, subK_ok ⟨rfl, congrArg (fun x => some (sv x)) (by unfold lineT; rw [if_pos hw0, hk, hj]; simp), rfl, rfl, rfl, trivial⟩⟩
       · have q1 : decide (x.wth ≥ 0) = false := decide_eq_false hw0
         repeat (first | (refine Br.no q1 ?_; conv => whnf) | ((first | refine Br.y1 ?_ | refine Br.n1 ?_); conv => whnf))
         exact ⟨rfl, rfl, subK_ok ⟨rfl, congrArg (fun x => some (sv x)) (by unfold lineT; rw [if_neg hw0, hk]; simp), rfl, rfl, rfl, trivial⟩⟩
     rintro e L' s' ⟨rfl, rfl, hs⟩
     refine Sm.weak _ hs ?_
     clear hs
     refine Sm.ofW ?_
     conv => whnf
     refine hp.lit (cs := [sv (lineT x)]) (e := 1) (by rfl) ?_
     clear hp
     intro b4 s4 hp _
     conv => whnf
     have x4 := hp.blkSl (n := 1) (C := [sv (lineT x)]) (k := b4) (b := b4) (e := 1) .d rfl
     refine hp.app SG Tryz.underlying95 rfl (κ := κo) (v := vo) .d (elems_sl x4) rfl rfl (by omega) ?_
     clear hp x4
     intro v5 κ5 s hp
     have e1 : ((ls.take i).map fun y => sv (lineT y)) ++ [sv (lineT x)] = (ls.take (i + 1)).map fun y => sv (lineT y) := by
      rw [htk, List.map_append]; rfl
     rw [e1] at hp
     conv => whnf
     refine Sm.ofW ?_
     conv => whnf
     exact ⟨(i + 1, κ5, v5), by (show ls.length - (i + 1) < ls.length - i); omega, subK_ok (by refine ⟨rfl, rfl, rfl, congrArg (fun x => some (Value.int .i64 x)) (show IntKind.i64.wrap ((i : Int) + 1) = ((i + 1 : Nat) : Int) by rw [wi64 (by omega) (by omega)]; omega), trivial⟩), by (show i + 1 ≤ ls.length); omega, by (show (ls.take (i + 1)).any badLn = false); rw [htk, List.any_append, hno]; simp [hbad], hp.pik (by repeat (first | exact Pik.nil | exact Pik.refl _ | exact Rm.here | apply Rm.there | apply Pik.cons | apply Pik.skip))⟩
 · have hc : i = ls.length := by have : ¬ (i : Int) < ((ls.length : Nat) : Int) := of_decide_eq_false hc; omega
   subst hc
   rw [List.take_length] at hno hp
   have hjl := lines_le ls
   conv => whnf
   refine Sm.seqW ?_
   conv => whnf
   have hso : Sl s κo vo 1 (ls.map lineT).length ((ls.map lineT).map sv) := by
    rw [List.length_map, List.map_map]
    exact hp.slF .d
   refine hp.call (sjoin_spec hp.wf hso 44 (by omega)) ?_
   clear hp
   rintro _ s rfl hp _
   conv => whnf
   refine Sm.live [2] ?_
   conv => whnf
   refine Sm.ofW ?_
   conv => whnf
   refine ⟨hp.fr, ?_⟩
   unfold printL
   rw [if_neg (by rw [hno]; decide)]; rfl
theorem eturned_spec {z : St} (wf : WF z) {κ : Option Nat} {v : Value} {ls : List Ln} (hv : Sln z κ v ls) (hok : ∀ x ∈ ls, x.amt.c < w128) (hl : ls.length ≤ 1000) :
  Cw Tryz.prog 20 [v] z fun r s' => K0 z s' ∧ OwnN z.next s' r 6 (ls.map turnL).length (lnC (ls.map turnL)) := by
 obtain ⟨a, cp, rfl⟩ := hv.shape
 have hp : Hp (fun _ => False) z [slA κ (.slice a ls.length cp) 6 ls.length (lnC ls)] [] z := Hp.start _ wf _ (by simp; exact hv)
 refine Cw.enterS Tryz.func20 rfl rfl ?_
 refine Sm.seqW ?_
 conv => whnf
 refine Sm.live [0] ?_
 conv => whnf
 refine Sm.seqW ?_
 conv => whnf
 refine Sm.live [0, 3] ?_
 conv => whnf
 refine Sm.seq ?_
 refine Sm.seqW ?_
 conv => whnf
 refine Sm.live [3, 6, 7, 8] ?_
 conv => whnf
 refine Sm.block ?_
 refine Sm.loop ?_
 refine Lp.ofS (α := Nat × Option Nat × Value) (fun x => [(3, x.2.2), (6, .slice a ls.length cp), (7, .int .i64 ((ls.length : Nat) : Int)), (8, .int .i64 (x.1 : Int))])
  (fun x s' => x.1 ≤ ls.length ∧ Hp (fun _ => False) z [slA κ (.slice a ls.length cp) 6 ls.length (lnC ls)] [onA x.2.1 x.2.2 6 x.1 (lnC ((ls.take x.1).map turnL))] s') (fun x => ls.length - x.1) ?_ (0, none, .slice none 0 0) (subK_ok (by refine ⟨rfl, rfl, rfl, rfl, trivial⟩)) ⟨Nat.zero_le _, (hp.nilA 6).pik (by repeat (first | exact Pik.nil | exact Pik.refl _ | exact Rm.here | apply Rm.there | apply Pik.cons | apply Pik.skip))⟩
 clear hp
 rintro ⟨i, κo, vo⟩ s ⟨hi, hp⟩
 simp only at hi hp
 refine Sm.seqW ?_
 conv => whnf
 refine Sm.live [3, 6, 7, 8, 9] ?_
 conv => whnf
 refine Sm.seq ?_
 refine Sm.ofW ?_
 conv => whnf
 refine Br.mk (fun hc => ?_) (fun hc => ?_)
 · have hc : i < ls.length := by have : (i : Int) < ((ls.length : Nat) : Int) := of_decide_eq_true hc; omega
   obtain ⟨e, g1, g2⟩ := index_ln (hp.slR (κ := κ) (v := .slice a ls.length cp) .here) .i64 hc
   have htk : ls.take (i + 1) = ls.take i ++ [ls[i]] := List.take_succ_eq_append_getElem hc
   have hmem : ls[i] ∈ ls := List.getElem_mem hc
   have hm := hok _ hmem
   generalize hw : ls[i] = x at *
   conv => whnf
   refine Sm.seq ?_
   refine Sm.block ?_
   refine Sm.seqW ?_
   conv => whnf
   refine Om.of _ (g1) ?_
   conv => whnf
   refine Om.of _ (g2) ?_
   conv => whnf
   refine hp.alloc (cs := Ln.zero.cells) (e := 6) rfl rfl rfl rfl rfl ?_
   clear hp
   intro p5 s hp _
   conv => whnf
   refine hp.storeW (vs := x.cells) rfl .d csx rfl rfl rfl ?_
   clear hp
   intro s hp _
   conv => whnf
   refine Sm.live [3, 5, 6, 7, 8] ?_
   conv => whnf
   refine Sm.seqW ?_
   conv => whnf
   refine hp.loadA (l := x.amt.cells) .d rfl (by rfl) rfl rfl ?_
   conv => whnf
   refine hp.call (dneg_spec hp.wf x.amt hm) ?_
   clear hp
   rintro _ s rfl hp _
   conv => whnf
   refine hp.storeA (off := 1) (vs := (negF x.amt).cells) rfl .d (by show 1 + 4 ≤ 6; decide) rfl rfl rfl ?_
   clear hp
   intro s hp _
   replace hp : Hp (fun _ => False) z [slA κ (.slice a ls.length cp) 6 ls.length (lnC ls)] [blkA p5 p5 (turnL x).cells 6, onA κo vo 6 i (lnC ((ls.take i).map turnL))] s := hp
   conv => whnf
   refine Sm.live [3, 5, 6, 7, 8] ?_
   conv => whnf
   refine Sm.ofW ?_
   conv => whnf
   refine hp.loadA (l := (turnL x).cells) .d rfl (by rfl) rfl rfl ?_
   conv => whnf
   refine hp.lit (cs := (turnL x).cells) (e := 6) (by rfl) ?_
   clear hp
   intro b4 s4 hp _
   conv => whnf
   have x4 := hp.blkSl (n := 1) (C := (turnL x).cells) (k := b4) (b := b4) (e := 6) .d rfl
   refine hp.app LT Tryz.underlying24 rfl (κ := κo) (v := vo) .d (elems_sl x4) rfl rfl (by omega) ?_
   clear hp x4
   intro v5 κ5 s hp
   have e1 : lnC ((ls.take i).map turnL) ++ (turnL x).cells = lnC ((ls.take (i + 1)).map turnL) := by
    rw [htk, List.map_append, lnC_app]; simp [lnC]
   rw [e1] at hp
   conv => whnf
   refine Sm.ofW ?_
   conv => whnf
   exact ⟨(i + 1, κ5, v5), by (show ls.length - (i + 1) < ls.length - i); omega, subK_ok (by refine ⟨rfl, rfl, rfl, congrArg (fun x => some (Value.int .i64 x)) (show IntKind.i64.wrap ((i : Int) + 1) = ((i + 1 : Nat) : Int) by rw [wi64 (by omega) (by omega)]; omega), trivial⟩), by (show i + 1 ≤ ls.length); omega, hp.pik (by repeat (first | exact Pik.nil | exact Pik.refl _ | exact Rm.here | apply Rm.there | apply Pik.cons | apply Pik.skip))⟩
 · have hc : i = ls.length := by have : ¬ (i : Int) < ((ls.length : Nat) : Int) := of_decide_eq_false hc; omega
   subst hc
   rw [List.take_length] at hp
   conv => whnf
   refine Sm.seqW ?_
   conv => whnf
   refine Sm.live [2] ?_
   conv => whnf
   refine Sm.ofW ?_
   conv => whnf
   refine ⟨hp.fr, ?_⟩
   have := hp.out .d
   rw [List.length_map]
   exact this
end

/- entry.Right walked. No condition. -/
section
variable [Lk]
theorem erightLine_spec {z : St} (wf : WF z) (x : Ln) (hx : x.amt.c < w128) (sc : Int) :
  Cw Tryz.prog 56 [x.val, .int .i64 sc] z fun r s' => K0 z s' ∧ r = .bool (rightLn x sc) := by
 have hp : Hp (fun _ => False) z [] [] z := Hp.start _ wf _ (by simp)
 refine Cw.enterS Tryz.func56 rfl rfl ?_
 refine Sm.seqW ?_
 conv => whnf
 refine hp.var (cs := x.cells) (e := 6) rfl rfl ?_
 clear hp
 intro p2 s hp _
 conv => whnf
 refine Sm.live [1, 2] ?_
 conv => whnf
 refine Sm.seqC (fun e' L' s' => e' = .normal ∧ s' = s ∧ Sub [(1, .int .i64 sc), (2, .pointer (some ⟨p2, 0, none⟩)), (5, .bool (decide (0 ≤ x.wth ∧ x.wth < 8)))] L') ?_ ?_
 · conv => whnf
   refine hp.load (v := .int .i64 x.wth) .d (by rfl) rfl rfl rfl ?_
   conv => whnf
   by_cases h1 : 0 ≤ x.wth
   · have q1 : decide (x.wth ≥ 0) = true := decide_eq_true h1
     repeat (first | (refine Br.yes q1 ?_; conv => whnf) | ((first | refine Br.y1 ?_ | refine Br.n1 ?_); conv => whnf))
     refine hp.load (v := .int .i64 x.wth) .d (by rfl) rfl rfl rfl ?_
     conv => whnf
     repeat (first | (refine Br.yes q1 ?_; conv => whnf) | ((first | refine Br.y1 ?_ | refine Br.n1 ?_); conv => whnf))
     exact ⟨rfl, rfl, subK_ok ⟨rfl, rfl, congrArg (fun x => some (Value.bool x)) (decide_eq_decide.2 ⟨fun h => ⟨h1, h⟩, fun h => h.2⟩), trivial⟩⟩
   · have q1 : decide (x.wth ≥ 0) = false := decide_eq_false h1
     repeat (first | (refine Br.no q1 ?_; conv => whnf) | ((first | refine Br.y1 ?_ | refine Br.n1 ?_); conv => whnf))
     exact ⟨rfl, rfl, subK_ok ⟨rfl, rfl, congrArg (fun x => some (Value.bool x)) (decide_eq_false (fun h => h1 h.1)).symm, trivial⟩⟩
 rintro e L' s' ⟨rfl, rfl, hs⟩
 refine Sm.weak _ hs ?_
 clear hs
 refine Sm.seq ?_
 refine Sm.seqC (fun e' L' s' => e' = .normal ∧ Hp (fun _ => False) z [] [blkA p2 p2 x.cells 6] s' ∧ Sub [(2, .pointer (some ⟨p2, 0, none⟩)), (5, .bool (decide (0 ≤ x.wth ∧ x.wth < 8))), (30, .bool (!(decide (0 ≤ x.acct ∧ x.acct < 16) && (!(signF x.amt == 0) && x.amt.scale == sc))))] L') ?_ ?_
 · conv => whnf
   refine hp.load (v := .int .i64 x.acct) .d (by rfl) rfl rfl rfl ?_
   conv => whnf
   refine (kind_spec _ x.acct).mono ?_
   rintro _ s1 ⟨h1, rfl⟩
   obtain rfl := h1.symm
   conv => whnf
   by_cases hk : 0 ≤ x.acct ∧ x.acct < 16
   · have q1 : (kindF x.acct == 0) = false := beq_eq_false_iff_ne.2 fun h => kindF_0.1 h hk
     repeat (first | (refine Br.no q1 ?_; conv => whnf) | ((first | refine Br.y1 ?_ | refine Br.n1 ?_); conv => whnf))
     refine hp.loadA (l := x.amt.cells) .d rfl (by rfl) rfl rfl ?_
     conv => whnf
     repeat (first | (refine Br.no q1 ?_; conv => whnf) | ((first | refine Br.y1 ?_ | refine Br.n1 ?_); conv => whnf))
     refine hp.call (dsign_spec hp.wf x.amt hx) ?_
     clear hp
     rintro _ s rfl hp _
     conv => whnf
     repeat (first | (refine Br.no q1 ?_; conv => whnf) | ((first | refine Br.y1 ?_ | refine Br.n1 ?_); conv => whnf))
     cases hs : signF x.amt == 0 with
     | true =>
       repeat (first | (refine Br.no q1 ?_; conv => whnf) | (refine Br.yes hs ?_; conv => whnf) | ((first | refine Br.y1 ?_ | refine Br.n1 ?_); conv => whnf))
       exact ⟨rfl, hp, subK_ok ⟨rfl, rfl, congrArg (fun x => some (Value.bool x)) (by simp), trivial⟩⟩
     | false =>
       repeat (first | (refine Br.no q1 ?_; conv => whnf) | (refine Br.no hs ?_; conv => whnf) | ((first | refine Br.y1 ?_ | refine Br.n1 ?_); conv => whnf))
       refine hp.load (v := .int .i64 x.amt.scale) .d (by rfl) rfl rfl rfl ?_
       conv => whnf
       repeat (first | (refine Br.no q1 ?_; conv => whnf) | (refine Br.no hs ?_; conv => whnf) | ((first | refine Br.y1 ?_ | refine Br.n1 ?_); conv => whnf))
       exact ⟨rfl, hp, subK_ok ⟨rfl, rfl, congrArg (fun x => some (Value.bool x)) (by rw [decide_eq_true hk]; rfl), trivial⟩⟩
   · have q1 : (kindF x.acct == 0) = true := beq_iff_eq.2 (kindF_0.2 hk)
     repeat (first | (refine Br.yes q1 ?_; conv => whnf) | ((first | refine Br.y1 ?_ | refine Br.n1 ?_); conv => whnf))
     exact ⟨rfl, hp, subK_ok ⟨rfl, rfl, congrArg (fun x => some (Value.bool x)) (by rw [decide_eq_false hk]; rfl), trivial⟩⟩
 clear hp
 rintro e' L' s ⟨rfl, hp, hs⟩
 refine Sm.weak _ hs ?_
 clear hs
 refine Sm.ofW ?_
 conv => whnf
 unfold rightLn
 obtain ⟨g, hg⟩ : ∃ g, g = (decide (0 ≤ x.acct ∧ x.acct < 16) && (!(signF x.amt == 0) && x.amt.scale == sc)) := ⟨_, rfl⟩
 have hfin : (decide (0 ≤ x.acct ∧ x.acct < 16) && (!(signF x.amt == 0) && (x.amt.scale == sc && (if isWithF x.acct = true then decide (0 ≤ x.wth ∧ x.wth < 8) else x.wth == -1)))) = (g && (if isWithF x.acct = true then decide (0 ≤ x.wth ∧ x.wth < 8) else x.wth == -1)) := by
  rw [hg]; simp only [Bool.and_assoc]
 rw [hfin, ← hg]
 cases g with
 | false =>
   repeat ((first | refine Br.y1 ?_ | refine Br.n1 ?_); conv => whnf)
   exact ⟨hp.fr, rfl⟩
 | true =>
   repeat ((first | refine Br.y1 ?_ | refine Br.n1 ?_); conv => whnf)
   refine Sm.seqW ?_
   conv => whnf
   refine hp.load (v := .int .i64 x.acct) .d (by rfl) rfl rfl rfl ?_
   conv => whnf
   refine (isWith_spec _ x.acct).mono ?_
   rintro _ s1 ⟨h1, rfl⟩
   obtain rfl := h1.symm
   conv => whnf
   rw [Bool.true_and]
   cases hw : isWithF x.acct with
   | true =>
     rw [if_pos rfl]
     repeat ((first | refine Br.y1 ?_ | refine Br.n1 ?_); conv => whnf)
     cases hd : decide (0 ≤ x.wth ∧ x.wth < 8) with
     | true =>
       repeat ((first | refine Br.y1 ?_ | refine Br.n1 ?_); conv => whnf)
       refine Sm.ofW ?_
       conv => whnf
       exact ⟨hp.fr, rfl⟩
     | false =>
       repeat ((first | refine Br.y1 ?_ | refine Br.n1 ?_); conv => whnf)
       refine hp.load (v := .int .i64 x.acct) .d (by rfl) rfl rfl rfl ?_
       conv => whnf
       repeat ((first | refine Br.y1 ?_ | refine Br.n1 ?_); conv => whnf)
       refine (isWith_spec _ x.acct).mono ?_
       rintro _ s1 ⟨h1, rfl⟩
       obtain rfl := h1.symm
       conv => whnf
       rw [hw]
       repeat ((first | refine Br.y1 ?_ | refine Br.n1 ?_); conv => whnf)
       refine Sm.ofW ?_
       conv => whnf
       exact ⟨hp.fr, rfl⟩
   | false =>
     rw [if_neg (by decide)]
     repeat ((first | refine Br.y1 ?_ | refine Br.n1 ?_); conv => whnf)
     refine hp.load (v := .int .i64 x.acct) .d (by rfl) rfl rfl rfl ?_
     conv => whnf
     repeat ((first | refine Br.y1 ?_ | refine Br.n1 ?_); conv => whnf)
     refine (isWith_spec _ x.acct).mono ?_
     rintro _ s1 ⟨h1, rfl⟩
     obtain rfl := h1.symm
     conv => whnf
     rw [hw]
     repeat ((first | refine Br.y1 ?_ | refine Br.n1 ?_); conv => whnf)
     refine hp.load (v := .int .i64 x.wth) .d (by rfl) rfl rfl rfl ?_
     conv => whnf
     repeat ((first | refine Br.y1 ?_ | refine Br.n1 ?_); conv => whnf)
     refine Sm.ofW ?_
     conv => whnf
     exact ⟨hp.fr, rfl⟩
theorem addD_c (a b : Dc) : (addD a b).1.c < w128 := by
 unfold addD
 split
 · decide
 · unfold mkP
   split
   · rename_i h
     exact Nat.lt_trans h (by decide)
   · decide
theorem sumL_app : ∀ (l r : List Ln) (s : Dc), sumL s (l ++ r) = if (sumL s l).2 ≠ 0 then sumL s l else sumL (sumL s l).1 r
 | [], r, s => by simp [sumL]
 | x :: l, r, s => by
   rw [List.cons_append, sumL, sumL]
   by_cases h : (addD s x.amt).2 ≠ 0
   · rw [if_pos h, if_pos h, if_pos h]
   · rw [if_neg h, if_neg h]
     exact sumL_app l r _
theorem sumL_one (s : Dc) (x : Ln) : sumL s [x] = addD s x.amt := by
 unfold sumL sumL
 split
 · rfl
 · rename_i h
   have h : (addD s x.amt).2 = 0 := by simpa using h
   rw [← h]
theorem eright_spec {z : St} (wf : WF z) {κ : Option Nat} {v : Value} {ls : List Ln} (hv : Sln z κ v ls) (hok : ∀ x ∈ ls, x.amt.c < w128) (hl : ls.length ≤ 1000) (sc : Int) :
  Cw Tryz.prog 16 [v, .int .i64 sc] z fun r s' => K0 z s' ∧ r = .int .i64 (rightLF ls sc) := by
 obtain ⟨a, cp, rfl⟩ := hv.shape
 have hp : Hp (fun _ => False) z [slA κ (.slice a ls.length cp) 6 ls.length (lnC ls)] [] z := Hp.start _ wf _ (by simp; exact hv)
 unfold rightLF
 refine Cw.enterS Tryz.func16 rfl rfl ?_
 refine Sm.seqW ?_
 conv => whnf
 refine Sm.live [0, 1] ?_
 conv => whnf
 refine Sm.seq ?_
 refine Sm.seqC (fun e' L' s' => e' = .normal ∧ s' = z ∧ Sub [(0, .slice a ls.length cp), (1, .int .i64 sc), (18, .bool (decide (ls = [] ∨ 8 < ls.length)))] L') ?_ ?_
 · conv => whnf
   by_cases h0 : ls = []
   · have q1 : (((ls.length : Nat) : Int) == 0) = true := by rw [h0]; rfl
     repeat (first | (refine Br.yes q1 ?_; conv => whnf) | ((first | refine Br.y1 ?_ | refine Br.n1 ?_); conv => whnf))
     exact ⟨rfl, rfl, subK_ok ⟨rfl, rfl, congrArg (fun x => some (Value.bool x)) (decide_eq_true (.inl h0)).symm, trivial⟩⟩
   · have q1 : (((ls.length : Nat) : Int) == 0) = false := beq_eq_false_iff_ne.2 (by have := List.length_pos_iff.2 h0; omega)
     repeat (first | (refine Br.no q1 ?_; conv => whnf) | ((first | refine Br.y1 ?_ | refine Br.n1 ?_); conv => whnf))
     exact ⟨rfl, rfl, subK_ok ⟨rfl, rfl, congrArg (fun x => some (Value.bool x)) (decide_eq_decide.2 ⟨fun h => .inr (by omega), fun h => by rcases h with h | h; exact absurd h h0; omega⟩), trivial⟩⟩
 rintro e' L' s' ⟨rfl, h1, hs⟩
 obtain rfl := h1.symm
 refine Sm.weak _ hs ?_
 clear hs
 refine Sm.ofW ?_
 conv => whnf
 by_cases h0 : ls = [] ∨ 8 < ls.length
 · rw [if_pos h0]
   refine Br.yes (decide_eq_true h0) ?_
   conv => whnf
   exact ⟨hp.fr, rfl⟩
 rw [if_neg h0]
 refine Br.no (decide_eq_false h0) ?_
 conv => whnf
 refine Sm.seq ?_
 refine Sm.seqW ?_
 conv => whnf
 refine Sm.live [0, 1, 19, 20, 21] ?_
 conv => whnf
 refine Sm.block ?_
 refine Sm.loop ?_
 refine Lp.ofS (α := Nat) (fun i => [(0, .slice a ls.length cp), (1, .int .i64 sc), (19, .slice a ls.length cp), (20, .int .i64 ((ls.length : Nat) : Int)), (21, .int .i64 (i : Int))])
  (fun i s' => i ≤ ls.length ∧ ((ls.take i).all fun x => rightLn x sc) = true ∧ Hp (fun _ => False) z [slA κ (.slice a ls.length cp) 6 ls.length (lnC ls)] [] s') (fun i => ls.length - i) ?_ 0 (subK_ok (by refine ⟨rfl, rfl, rfl, rfl, rfl, trivial⟩)) ⟨Nat.zero_le _, rfl, hp⟩
 clear hp
 rintro i s ⟨hi, hall, hp⟩
 refine Sm.seqW ?_
 conv => whnf
 refine Sm.live [0, 1, 19, 20, 21, 22] ?_
 conv => whnf
 refine Sm.seq ?_
 refine Sm.ofW ?_
 conv => whnf
 refine Br.mk (fun hc => ?_) (fun hc => ?_)
 · have hc : i < ls.length := by have : (i : Int) < ((ls.length : Nat) : Int) := of_decide_eq_true hc; omega
   obtain ⟨e, g1, g2⟩ := index_ln (hp.slR (κ := κ) (v := .slice a ls.length cp) .here) .i64 hc
   have htk : ls.take (i + 1) = ls.take i ++ [ls[i]] := List.take_succ_eq_append_getElem hc
   have hmem : ls[i] ∈ ls := List.getElem_mem hc
   have hm := hok _ hmem
   generalize hw : ls[i] = x at *
   conv => whnf
   refine Sm.seq ?_
   refine Sm.block ?_
   refine Sm.seqW ?_
   conv => whnf
   refine Om.of _ (g1) ?_
   conv => whnf
   refine Om.of _ (g2) ?_
   conv => whnf
   refine hp.alloc (cs := Ln.zero.cells) (e := 6) rfl rfl rfl rfl rfl ?_
   clear hp
   intro p6 s hp _
   conv => whnf
   refine hp.storeW (vs := x.cells) rfl .d csx rfl rfl rfl ?_
   clear hp
   intro s hp _
   conv => whnf
   refine Sm.live [0, 1, 6, 19, 20, 21] ?_
   conv => whnf
   refine Sm.seqW ?_
   conv => whnf
   refine hp.loadA (l := x.cells) .d rfl (by rfl) rfl rfl ?_
   conv => whnf
   refine hp.call (erightLine_spec hp.wf x hm sc) ?_
   clear hp
   rintro _ s rfl hp _
   conv => whnf
   refine Sm.live [0, 1, 19, 20, 21, 28] ?_
   conv => whnf
   refine Sm.ofW ?_
   conv => whnf
   cases hr : rightLn x sc with
   | true =>
     repeat ((first | refine Br.y1 ?_ | refine Br.n1 ?_); conv => whnf)
     refine Sm.ofW ?_
     conv => whnf
     exact ⟨i + 1, by (show ls.length - (i + 1) < ls.length - i); omega, subK_ok (by refine ⟨rfl, rfl, rfl, rfl, congrArg (fun x => some (Value.int .i64 x)) (show IntKind.i64.wrap ((i : Int) + 1) = ((i + 1 : Nat) : Int) by rw [wi64 (by omega) (by omega)]; omega), trivial⟩), by omega, by rw [htk, List.all_append, hall]; simp [hr], hp.pik (by repeat (first | exact Pik.nil | exact Pik.refl _ | exact Rm.here | apply Rm.there | apply Pik.cons | apply Pik.skip))⟩
   | false =>
     repeat ((first | refine Br.y1 ?_ | refine Br.n1 ?_); conv => whnf)
     have : (ls.all fun x => rightLn x sc) = false := by
      cases hq : (ls.all fun x => rightLn x sc) with
      | false => rfl
      | true => rw [List.all_eq_true] at hq; rw [hq x hmem] at hr; cases hr
     exact ⟨hp.fr, by rw [if_pos this]; rfl⟩
 · have hc : i = ls.length := by have : ¬ (i : Int) < ((ls.length : Nat) : Int) := of_decide_eq_false hc; omega
   subst hc
   rw [List.take_length] at hall
   rw [if_neg (by rw [hall]; decide)]
   have h00 : ls ≠ [] := fun h => h0 (.inl h)
   have hsc : 0 ≤ sc ∧ sc ≤ 9 := by
    obtain ⟨x, r, rfl⟩ := List.exists_cons_of_ne_nil h00
    have hx : rightLn x sc = true := by rw [List.all_cons, Bool.and_eq_true] at hall; exact hall.1
    unfold rightLn at hx
    simp only [Bool.and_eq_true, Bool.not_eq_true', beq_eq_false_iff_ne, beq_iff_eq] at hx
    have hr := Dc.right_iff.1 (sign_rt hx.2.1).1
    rw [hx.2.2.1] at hr
    exact ⟨hr.2.1, hr.2.2.1⟩
   have hz : ofD 0 sc = zeroD sc := by
    unfold ofD zeroD
    have : max 0 (min sc 9) = sc := by omega
    rw [this]; rfl
   conv => whnf
   refine Sm.seqW ?_
   conv => whnf
   refine hp.call (dof_spec hp.wf (n := 0) (by unfold inR; decide) sc) ?_
   clear hp
   rintro _ s rfl hp _
   conv => whnf
   rw [hz]
   refine hp.alloc (cs := Dc.zero.cells) (e := 4) rfl rfl rfl rfl rfl ?_
   clear hp
   intro p7 s hp _
   conv => whnf
   refine hp.storeW (vs := (zeroD sc).cells) rfl .d csx rfl rfl rfl ?_
   clear hp
   intro s hp _
   conv => whnf
   refine Sm.live [0, 7] ?_
   conv => whnf
   refine Sm.seq ?_
   refine Sm.seqW ?_
   conv => whnf
   refine Sm.live [7, 32, 33, 34] ?_
   conv => whnf
   refine Sm.block ?_
   refine Sm.loop ?_
   refine Lp.ofS (α := Nat × Dc) (fun x => [(7, .pointer (some ⟨p7, 0, none⟩)), (32, .slice a ls.length cp), (33, .int .i64 ((ls.length : Nat) : Int)), (34, .int .i64 (x.1 : Int))])
    (fun x s' => x.1 ≤ ls.length ∧ sumL (zeroD sc) (ls.take x.1) = (x.2, 0) ∧ x.2.c < w128 ∧ Hp (fun _ => False) z [slA κ (.slice a ls.length cp) 6 ls.length (lnC ls)] [blkA p7 p7 x.2.cells 4] s') (fun x => ls.length - x.1) ?_ (0, zeroD sc) (subK_ok (by refine ⟨rfl, rfl, rfl, rfl, trivial⟩)) ⟨Nat.zero_le _, rfl, by (show 0 < w128); decide, hp.pik (by repeat (first | exact Pik.nil | exact Pik.refl _ | exact Rm.here | apply Rm.there | apply Pik.cons | apply Pik.skip))⟩
   clear hp
   rintro ⟨i, d⟩ s ⟨hi, hsm, hd, hp⟩
   simp only at hi hsm hd hp
   refine Sm.seqW ?_
   conv => whnf
   refine Sm.live [7, 32, 33, 34, 35] ?_
   conv => whnf
   refine Sm.seq ?_
   refine Sm.ofW ?_
   conv => whnf
   refine Br.mk (fun hc => ?_) (fun hc => ?_)
   · have hc : i < ls.length := by have : (i : Int) < ((ls.length : Nat) : Int) := of_decide_eq_true hc; omega
     obtain ⟨e, g1, g2⟩ := index_ln (hp.slR (κ := κ) (v := .slice a ls.length cp) .here) .i64 hc
     have htk : ls.take (i + 1) = ls.take i ++ [ls[i]] := List.take_succ_eq_append_getElem hc
     have hdr : ls = ls.take (i + 1) ++ ls.drop (i + 1) := (List.take_append_drop _ _).symm
     have hmem : ls[i] ∈ ls := List.getElem_mem hc
     have hm := hok _ hmem
     generalize hw : ls[i] = x at *
     have hs1 : sumL (zeroD sc) (ls.take (i + 1)) = addD d x.amt := by rw [htk, sumL_app, hsm, if_neg (by simp), sumL_one]
     have hac := addD_c d x.amt
     conv => whnf
     refine Sm.seq ?_
     refine Sm.block ?_
     refine Sm.seqW ?_
     conv => whnf
     refine Om.of _ (g1) ?_
     conv => whnf
     refine Om.of _ (g2) ?_
     conv => whnf
     refine hp.alloc (cs := Ln.zero.cells) (e := 6) rfl rfl rfl rfl rfl ?_
     clear hp
     intro p9 s hp _
     conv => whnf
     refine hp.storeW (vs := x.cells) rfl .d csx rfl rfl rfl ?_
     clear hp
     intro s hp _
     conv => whnf
     refine Sm.live [7, 9, 32, 33, 34] ?_
     conv => whnf
     refine Sm.seqW ?_
     conv => whnf
     refine Sm.live [7, 9, 32, 33, 34] ?_
     conv => whnf
     refine Sm.seqW ?_
     conv => whnf
     refine hp.loadA (l := d.cells) .d rfl (by rfl) rfl rfl ?_
     conv => whnf
     refine hp.loadA (l := x.amt.cells) .d rfl (by rfl) rfl rfl ?_
     conv => whnf
     refine hp.call (decAdd_spec hp.wf d x.amt hd hm) ?_
     clear hp
     rintro _ s rfl hp _
     conv => whnf
     rw [addF_D]
     generalize hA : addD d x.amt = A at *
     conv => whnf
     refine hp.storeW (vs := A.1.cells) rfl .d csx rfl rfl rfl ?_
     clear hp
     intro s hp _
     conv => whnf
     refine Sm.live [7, 10, 32, 33, 34] ?_
     conv => whnf
     refine Sm.seqW ?_
     conv => whnf
     refine Sm.ofW ?_
     conv => whnf
     cases he : A.2 == 0 with
     | true =>
       have he2 : A.2 = 0 := beq_iff_eq.1 he
       refine Br.no (by show (!(A.2 == 0)) = false; rw [he]; rfl) ?_
       conv => whnf
       refine Sm.ofW ?_
       conv => whnf
       exact ⟨(i + 1, A.1), by (show ls.length - (i + 1) < ls.length - i); omega, subK_ok (by refine ⟨rfl, rfl, rfl, congrArg (fun x => some (Value.int .i64 x)) (show IntKind.i64.wrap ((i : Int) + 1) = ((i + 1 : Nat) : Int) by rw [wi64 (by omega) (by omega)]; omega), trivial⟩), by (show i + 1 ≤ ls.length); omega, by (show sumL (zeroD sc) (ls.take (i + 1)) = (A.1, 0)); rw [hs1, ← he2], hac, hp.pik (by repeat (first | exact Pik.nil | exact Pik.refl _ | exact Rm.here | apply Rm.there | apply Pik.cons | apply Pik.skip))⟩
     | false =>
       have he2 : A.2 ≠ 0 := beq_eq_false_iff_ne.1 he
       refine Br.yes (by show (!(A.2 == 0)) = true; rw [he]; rfl) ?_
       conv => whnf
       refine ⟨hp.fr, ?_⟩
       have : sumL (zeroD sc) ls = A := by
        rw [hdr, sumL_app, hs1, if_pos he2]
       rw [this]
       unfold tailE
       rw [if_pos he2]; rfl
   · have hc : i = ls.length := by have : ¬ (i : Int) < ((ls.length : Nat) : Int) := of_decide_eq_false hc; omega
     subst hc
     rw [List.take_length] at hsm
     rw [hsm]
     unfold tailE
     rw [if_neg (by simp)]
     conv => whnf
     refine Sm.seq ?_
     refine Sm.seqW ?_
     conv => whnf
     refine hp.loadA (l := d.cells) .d rfl (by rfl) rfl rfl ?_
     conv => whnf
     refine hp.call (dsign_spec hp.wf d hd) ?_
     clear hp
     rintro _ s rfl hp _
     conv => whnf
     refine Sm.ofW ?_
     conv => whnf
     cases he : signF d == 0 with
     | true =>
       refine Br.no (by show (!(signF d == 0)) = false; rw [he]; rfl) ?_
       conv => whnf
       refine Sm.seqW ?_
       conv => whnf
       refine Sm.ofW ?_
       conv => whnf
       refine ⟨hp.fr, ?_⟩
       rw [if_neg (by simpa using he)]; rfl
     | false =>
       refine Br.yes (by show (!(signF d == 0)) = true; rw [he]; rfl) ?_
       conv => whnf
       refine ⟨hp.fr, ?_⟩
       rw [if_pos (by simpa using he)]; rfl
end

/- Raw numbers as lines, walked. No condition. -/
section
variable [Lk]
theorem quoI {P : Program} {t : TypeId} {cst : Bool} {a m : Int} (hm : 0 < m) (ha : inR a) : evBin P .quo t cst (.int .i64 a) (.int .i64 m) = some (.int .i64 (a.tdiv m)) := by
 show (match decide (m = 0) with
  | true => none
  | false => some (Value.int .i64 (IntKind.i64.wrap (a.tdiv m)))) = _
 rw [decide_eq_false (by omega)]
 have h : a.tdiv m = IntKind.i64.wrap (a.tdiv m) := by
  obtain ⟨h1, h2⟩ := ha
  have h3 : (a.tdiv m).natAbs ≤ a.natAbs := by rw [Int.natAbs_tdiv]; exact Nat.div_le_self _ _
  refine (wi64 ?_ ?_).symm
  · omega
  · rcases Int.lt_or_le a 0 with g | g
    · have : a.tdiv m ≤ 0 := by
       have h4 : (-a).tdiv m = -(a.tdiv m) := Int.neg_tdiv ..
       have h5 : 0 ≤ (-a).tdiv m := Int.tdiv_nonneg (by omega) (by omega)
       omega
      omega
    · omega
 simp only
 rw [← h]
theorem tdiv_inR {a m : Int} (hm : 0 < m) (ha : inR a) : inR (a.tdiv m) := by
 obtain ⟨h1, h2⟩ := ha
 have h3 : (a.tdiv m).natAbs ≤ a.natAbs := by rw [Int.natAbs_tdiv]; exact Nat.div_le_self _ _
 unfold inR
 refine ⟨by omega, ?_⟩
 rcases Int.lt_or_le a 0 with g | g
 · have h4 : (-a).tdiv m = -(a.tdiv m) := Int.neg_tdiv ..
   have h5 : 0 ≤ (-a).tdiv m := Int.tdiv_nonneg (by omega) (by omega)
   omega
 · omega
theorem rzero_spec {z : St} (wf : WF z) (sc : Int) : Cw Tryz.prog 28 [.int .i64 sc] z fun r s' => K0 z s' ∧ r = (mkD 0 sc).val := by
 have hp : Hp (fun _ => False) z [] [] z := Hp.start _ wf _ (by simp)
 refine Cw.enterS Tryz.func28 rfl rfl ?_
 refine Sm.seqW ?_
 conv => whnf
 refine hp.alloc (cs := Dc.zero.cells) (e := 4) rfl rfl rfl rfl rfl ?_
 clear hp
 intro p2 s hp _
 conv => whnf
 refine Sm.live [0, 2] ?_
 conv => whnf
 refine Sm.seqW ?_
 conv => whnf
 refine hp.storeW (vs := (zeroD sc).cells) ?h1 .here rfl rfl rfl rfl ?_
 case h1 => simp [putAt, zeroD, Dc.cells, Value.cells]
 clear hp
 intro s hp _
 conv => whnf
 refine Sm.live [2] ?_
 conv => whnf
 refine Sm.ofW ?_
 conv => whnf
 refine hp.loadA (l := (zeroD sc).cells) .d rfl (by rfl) rfl rfl ?_
 conv => whnf
 exact ⟨hp.fr, rfl⟩
theorem risWith_spec (s : St) (a : Int) : Cw Tryz.prog 46 [.int .i64 a] s fun r s' => s' = s ∧ r = .bool (isWithF a) := by
 refine Cw.enterS Tryz.func46 rfl rfl ?_
 refine Sm.seqW ?_
 conv => whnf
 refine Sm.live [0] ?_
 conv => whnf
 refine Sm.ofW ?_
 conv => whnf
 repeat' (first | (refine Br.yes (by first | with_reducible rfl | with_reducible assumption) ?_; conv => whnf) | (refine Br.no (by first | with_reducible rfl | with_reducible assumption) ?_; conv => whnf) | (refine Br.mk (fun hq => ?_) (fun hq => ?_) <;> conv => whnf))
 all_goals refine ⟨rfl, congrArg Value.bool ?_⟩
 all_goals unfold isWithF
 all_goals (first | assumption | simp_all)
theorem ofD_mk2 {x sc : Int} (h1 : 0 ≤ sc) (h2 : sc ≤ 9) : ofD x sc = mkD x sc := by
 unfold ofD mkD
 have : max 0 (min sc 9) = sc := by omega
 rw [this]
theorem amount_spec {z : St} (wf : WF z) {n sc : Int} (hn : inR n) (g1 : 0 ≤ sc) (g2 : sc ≤ 9) : Cw Tryz.prog 45 [.int .i64 n, .int .i64 sc] z fun r s' => K0 z s' ∧ r = (mkD (n % 2000001 - 1000000) sc).val := by
 have hp : Hp (fun _ => False) z [] [] z := Hp.start _ wf _ (by simp)
 have b1 := Int.emod_nonneg n (show (2000001 : Int) ≠ 0 by decide)
 have b2 := Int.emod_lt_of_pos n (show (0 : Int) < 2000001 by decide)
 refine Cw.enterS Tryz.func45 rfl rfl ?_
 refine Sm.seqW ?_
 conv => whnf
 refine hp.alloc (cs := Dc.zero.cells) (e := 4) rfl rfl rfl rfl rfl ?_
 clear hp
 intro p4 s hp _
 conv => whnf
 refine Sm.live [0, 1, 4] ?_
 conv => whnf
 refine Sm.seqW ?_
 conv => whnf
 refine (pick_spec _ hn (m := 2000001) (by decide) (by decide)).mono ?_
 rintro _ s1 ⟨h1, rfl⟩
 obtain rfl := h1.symm
 conv => whnf
 rw [wi64 (n := n % 2000001 - 1000000) (by omega) (by omega)]
 refine hp.call (rof_spec hp.wf (n := n % 2000001 - 1000000) (by unfold inR; omega) sc) ?_
 clear hp
 rintro _ s rfl hp _
 conv => whnf
 rw [ofD_mk2 g1 g2]
 refine hp.storeW (vs := (mkD (n % 2000001 - 1000000) sc).cells) rfl .d csx rfl rfl rfl ?_
 clear hp
 intro s hp _
 conv => whnf
 refine Sm.live [4] ?_
 conv => whnf
 refine Sm.ofW ?_
 conv => whnf
 refine hp.loadA (l := (mkD (n % 2000001 - 1000000) sc).cells) .d rfl (by rfl) rfl rfl ?_
 conv => whnf
 exact ⟨hp.fr, rfl⟩
theorem index_i {s : St} {κ : Option Nat} {v : Value} {l : List Int} (h : Sl s κ v 1 l.length (l.map (Value.int .i64))) (k : IntKind) {i : Nat} (hi : i < l.length) :
  ∃ a, evIndexAddr Tryz.prog 22 v (.int k (i : Int)) = some (.pointer (some a)) ∧ evLoad Tryz.prog 3 (.pointer (some a)) s = some (.int .i64 l[i]) := by
 obtain ⟨p, y, e1, e2, e3, a, rfl⟩ := index_sl IL Tryz.underlying3 rfl h k hi
 rw [List.getElem?_map, List.getElem?_eq_getElem hi] at e2
 injection e2 with e2
 subst e2
 exact ⟨a, e1, e3⟩
structure LinesAns (z : St) (l : List Int) (sc bend ents : Int) (r : Value) (s' : St) : Prop where
 ex : ∃ ls : List Ln, ∃ κ, Sln s' κ r ls ∧ (∀ k, κ = some k → z.next ≤ k) ∧ 1 ≤ ls.length ∧ ls.length ≤ 9 ∧ (∀ x ∈ ls, MemLn x) ∧ (bend = 0 → ls = lines1 (linesL sc ents 6 l) sc ∧ OwnN z.next s' r 6 ls.length (lnC ls))
theorem linesL_nil (sc ents : Int) {n : Nat} {l : List Int} (h : n = 0 ∨ l.length < 2) : linesL sc ents n l = [] := by
 match n, l with
 | 0, _ => unfold linesL; rfl
 | n + 1, [] => simp [linesL]
 | n + 1, [a] => simp [linesL]
 | n + 1, a :: b :: r => simp only [List.length_cons] at h; omega
theorem putAt_mid (A B C vs : List Value) (off : Nat) (h : off + vs.length ≤ B.length) : putAt (A ++ (B ++ C)) (A.length + off) vs = A ++ (putAt B off vs ++ C) := by
 unfold putAt
 rw [List.take_length_add_append, Nat.add_assoc, List.drop_length_add_append, List.take_append_of_le_length (by omega), List.drop_append_of_le_length h]
 simp only [List.append_assoc]
theorem lnC_put {ls : List Ln} {k off : Nat} {vs : List Value} {y : Ln} (hk : k < ls.length) (hy : putAt ls[k].cells off vs = y.cells) (ho : off + vs.length ≤ 6) : putAt (lnC ls) (k * 6 + off) vs = lnC (ls.set k y) := by
 have h1 : ls = ls.take k ++ ls[k] :: ls.drop (k + 1) := by rw [← List.drop_eq_getElem_cons hk, List.take_append_drop]
 have h2 : ls.set k y = ls.take k ++ y :: ls.drop (k + 1) := by rw [List.set_eq_take_append_cons_drop, if_pos hk]
 have h3 : lnC ls = lnC (ls.take k) ++ (ls[k].cells ++ lnC (ls.drop (k + 1))) := by
  conv => lhs; rw [h1]
  rw [lnC_app, lnC_cons]
 have hl : (lnC (ls.take k)).length = k * 6 := by rw [lnC_len, List.length_take]; omega
 have hl6 : ls[k].cells.length = 6 := rfl
 rw [h2, h3, lnC_app, lnC_cons, ← hy, ← hl]
 exact putAt_mid _ _ _ _ _ (by omega)
theorem lnC_set {ls : List Ln} {k j : Nat} {v : Value} {y : Ln} (hk : k < ls.length) (hj : j < 6) (hy : ls[k].cells.set j v = y.cells) : (lnC ls).set (k * 6 + j) v = lnC (ls.set k y) := by
 have hl6 : ls[k].cells.length = 6 := rfl
 rw [← putAt_one v (by rw [lnC_len]; omega)]
 exact lnC_put hk (by rw [putAt_one v (by omega)]; exact hy) (by simp; omega)
theorem lnC_sl {ls : List Ln} {k : Nat} (hk : k < ls.length) : Go.Ev.sl (lnC ls) (k * 6 + 1) 4 = some ls[k].amt.cells := by
 have h : Go.Ev.sl (lnC ls) (k * 6) 6 = some ls[k].cells := by
  unfold Go.Ev.sl
  have e := lnC_at hk
  simp only [e]
  have : ls[k].cells.length = 6 := rfl
  rw [this]
 have := sl_sub (i := 1) (m := 4) h (by decide)
 exact this
theorem ans_own {z s' : St} {l : List Int} {sc bend ents : Int} {r : Value} {ls : List Ln} (h : OwnN z.next s' r 6 ls.length (lnC ls)) (h1 : 1 ≤ ls.length) (h9 : ls.length ≤ 9) (hm : ∀ x ∈ ls, MemLn x) (hb : bend = 0 → ls = lines1 (linesL sc ents 6 l) sc) : LinesAns z l sc bend ents r s' := by
 obtain ⟨κ, g1, g2⟩ := h.sl
 exact ⟨ls, κ, g1, g2, h1, h9, hm, fun e => ⟨hb e, h⟩⟩
theorem GoodLn.mem {sc ents : Int} {x : Ln} (h : GoodLn sc ents x) (he : ents ≤ 8) : MemLn x := by
 obtain ⟨y, g1, g2, g3⟩ := h.amt
 have ha := h.acct
 have hw := h.wth
 refine ⟨by omega, ?_, by rw [g3]; show y.natAbs < w128; simp only [w128]; omega⟩
 split at hw <;> omega
theorem mem_set {α : Type} {l : List α} {k : Nat} {y x : α} (h : x ∈ l.set k y) : x = y ∨ x ∈ l := by
 rcases List.mem_or_eq_of_mem_set h with g | g
 · exact .inr g
 · exact .inl g
theorem hlines_spec {z : St} (wf : WF z) {v : Value} {l : List Int} (hv : Sl z none v 1 l.length (l.map (Value.int .i64))) (hl : l.length ≤ 140737488351232) (hln : ∀ n ∈ l, inR n) {sc bend ents : Int} (sc1 : 0 ≤ sc) (sc2 : sc ≤ 9) (hb : inR bend) (en1 : 0 ≤ ents) (en2 : ents ≤ 8) :
  Cw Tryz.prog 13 [v, .int .i64 sc, .int .i64 bend, .int .i64 ents] z fun r s' => K0 z s' ∧ LinesAns z l sc bend ents r s' := by
 obtain ⟨a, cp, rfl⟩ := hv.shape
 have hp : Hp (fun _ => False) z [slA none (.slice a l.length cp) 1 l.length (l.map (Value.int .i64))] [] z := Hp.start _ wf _ (by simp; exact hv)
 refine Cw.enterS Tryz.func13 rfl rfl ?_
 refine Sm.seqW ?_
 conv => whnf
 refine Sm.live [0, 1, 2, 3] ?_
 conv => whnf
 refine Sm.seqW ?_
 conv => whnf
 refine Sm.live [0, 1, 2, 3, 9] ?_
 conv => whnf
 refine Sm.seqW ?_
 conv => whnf
 refine hp.call (rzero_spec hp.wf sc) ?_
 clear hp
 rintro _ s rfl hp _
 conv => whnf
 refine hp.alloc (cs := Dc.zero.cells) (e := 4) rfl rfl rfl rfl rfl ?_
 clear hp
 intro p10 s hp _
 conv => whnf
 refine hp.storeW (vs := (mkD 0 sc).cells) rfl .d csx rfl rfl rfl ?_
 clear hp
 intro s hp _
 conv => whnf
 refine Sm.live [0, 1, 2, 3, 9, 10] ?_
 conv => whnf
 refine Sm.seq ?_
 refine Sm.seqW ?_
 conv => whnf
 refine Sm.live [0, 1, 2, 3, 9, 10, 11] ?_
 conv => whnf
 refine Sm.block ?_
 refine Sm.loop ?_
 refine Lp.ofS (α := Nat × List Ln × Option Nat × Value) (fun x => [(0, .slice a l.length cp), (1, .int .i64 sc), (2, .int .i64 bend), (3, .int .i64 ents), (9, x.2.2.2), (10, .pointer (some ⟨p10, 0, none⟩)), (11, .int .i64 ((2 * x.1 : Nat) : Int))])
  (fun x s' => x.1 ≤ 6 ∧ x.2.1.length = x.1 ∧ linesL sc ents 6 l = x.2.1 ++ linesL sc ents (6 - x.1) (l.drop (2 * x.1)) ∧ 2 * x.1 ≤ l.length ∧ Hp (fun _ => False) z [slA none (.slice a l.length cp) 1 l.length (l.map (Value.int .i64))] [blkA p10 p10 (mkD (sumZ x.2.1) sc).cells 4, onA x.2.2.1 x.2.2.2 6 x.2.1.length (lnC x.2.1)] s') (fun x => 6 - x.1) ?_ (0, [], none, .slice none 0 0) (subK_ok (by refine ⟨rfl, rfl, rfl, rfl, rfl, rfl, rfl, trivial⟩)) ⟨by decide, rfl, rfl, Nat.zero_le _, (hp.nilA 6).pik (by repeat (first | exact Pik.nil | exact Pik.refl _ | exact Rm.here | apply Rm.there | apply Pik.cons | apply Pik.skip))⟩
 clear hp
 rintro ⟨j, out, κo, vo⟩ s ⟨hj, ho, heq, hjl, hp⟩
 simp only at hj ho heq hjl hp
 refine Sm.seq ?_
 refine Sm.seqC (fun e' L' s' => e' = .normal ∧ s' = s ∧ Sub [(0, .slice a l.length cp), (1, .int .i64 sc), (2, .int .i64 bend), (3, .int .i64 ents), (9, vo), (10, .pointer (some ⟨p10, 0, none⟩)), (11, .int .i64 ((2 * j : Nat) : Int)), (25, .bool (decide (2 * j + 1 < l.length ∧ j < 6)))] L') ?_ ?_
 · conv => whnf
   have ei : IntKind.i64.wrap (((2 * j : Nat) : Int) + 1) = ((2 * j + 1 : Nat) : Int) := by rw [wi64 (by omega) (by omega)]; omega
   by_cases h1 : 2 * j + 1 < l.length
   · have q1 : decide (IntKind.i64.wrap (((2 * j : Nat) : Int) + 1) < ((l.length : Nat) : Int)) = true := decide_eq_true (by rw [ei]; omega)
     repeat (first | (refine Br.yes q1 ?_; conv => whnf) | ((first | refine Br.y1 ?_ | refine Br.n1 ?_); conv => whnf))
     exact ⟨rfl, rfl, subK_ok ⟨rfl, rfl, rfl, rfl, rfl, rfl, rfl, congrArg (fun x => some (Value.bool x)) (decide_eq_decide.2 ⟨fun h => ⟨h1, by omega⟩, fun h => by omega⟩), trivial⟩⟩
   · have q1 : decide (IntKind.i64.wrap (((2 * j : Nat) : Int) + 1) < ((l.length : Nat) : Int)) = false := decide_eq_false (by rw [ei]; omega)
     repeat (first | (refine Br.no q1 ?_; conv => whnf) | ((first | refine Br.y1 ?_ | refine Br.n1 ?_); conv => whnf))
     exact ⟨rfl, rfl, subK_ok ⟨rfl, rfl, rfl, rfl, rfl, rfl, rfl, congrArg (fun x => some (Value.bool x)) (decide_eq_false (fun h => h1 h.1)).symm, trivial⟩⟩
 rintro e L' s' ⟨rfl, rfl, hs⟩
 refine Sm.weak _ hs ?_
 clear hs
 refine Sm.ofW ?_
 conv => whnf
 by_cases hc : 2 * j + 1 < l.length ∧ j < 6
 · refine Br.yes (decide_eq_true hc) ?_
   obtain ⟨hc1, hc2⟩ := hc
   obtain ⟨m, hm⟩ : ∃ m, 6 - j = m + 1 := ⟨5 - j, by omega⟩
   have hd : l.drop (2 * j) = l[2 * j] :: l[2 * j + 1] :: l.drop (2 * (j + 1)) := by
    rw [List.drop_eq_getElem_cons (by omega), List.drop_eq_getElem_cons hc1]; rfl
   rw [hm, hd, linesL] at heq
   have hA := hln _ (List.getElem_mem (show 2 * j < l.length by omega))
   have hB := hln _ (List.getElem_mem hc1)
   obtain ⟨f1, f2, f3⟩ := index_i (hp.slR (κ := none) (v := .slice a l.length cp) .here) .i64 (show 2 * j < l.length by omega)
   obtain ⟨f4, f5, f6⟩ := index_i (hp.slR (κ := none) (v := .slice a l.length cp) .here) .i64 hc1
   have ei : IntKind.i64.wrap (((2 * j : Nat) : Int) + 1) = ((2 * j + 1 : Nat) : Int) := by rw [wi64 (by omega) (by omega)]; omega
   generalize hAd : l[2 * j] = A at *
   generalize hBd : l[2 * j + 1] = B at *
   conv => whnf
   refine Sm.seq ?_
   refine Sm.block ?_
   refine Sm.seqW ?_
   conv => whnf
   refine ⟨[0, 0, 3, 7, 15, 0, 0, 64, 224, 480, 0, 2047, 4095, 0, 16383], by decide +kernel, by decide +kernel, ?_⟩
   conv => whnf
   refine Om.of _ (f2) ?_
   conv => whnf
   refine Om.of _ (f3) ?_
   conv => whnf
   refine (pick_spec _ hA (m := 16) (by decide) (by decide)).mono ?_
   rintro _ s1 ⟨h1, rfl⟩
   obtain rfl := h1.symm
   conv => whnf
   refine hp.dkS ?_
   conv => whnf
   rw [ei]
   refine Om.of _ (f5) ?_
   conv => whnf
   refine Om.of _ (f6) ?_
   conv => whnf
   refine hp.rst.call (amount_spec hp.rst.wf hB sc1 sc2) ?_
   rintro _ s1 rfl h1 k1
   conv => whnf
   refine hp.dkN h1 k1 ?_
   clear hp h1 k1
   intro s hp
   conv => whnf
   refine hp.rst.alloc (cs := Ln.zero.cells) (e := 6) rfl rfl rfl rfl rfl ?_
   intro p12 s1 h1 k1
   conv => whnf
   refine hp.dkN h1 k1 ?_
   clear hp h1 k1
   intro s hp
   conv => whnf
   refine hp.rst.storeW (vs := (Ln.mk (A % 16) (mkD (B % 2000001 - 1000000) sc) (-1)).cells) rfl .d csx rfl rfl rfl ?_
   intro s1 h1 l1
   conv => whnf
   refine hp.dkW h1 l1 ?_
   clear hp h1 l1
   intro s hp
   conv => whnf
   refine Sm.live [0, 1, 2, 3, 9, 10, 11, 12] ?_
   conv => whnf
   have y1 := Int.emod_nonneg B (show (2000001 : Int) ≠ 0 by decide)
   have y2 := Int.emod_lt_of_pos B (show (0 : Int) < 2000001 by decide)
   obtain ⟨y, hy⟩ : ∃ y, y = B % 2000001 - 1000000 := ⟨_, rfl⟩
   rw [← hy] at hp
   have hyb : y.natAbs ≤ 1000000 := by omega
   have hamt : amtY B = if y = 0 then 1 else y := by unfold amtY; rw [← hy]
   obtain ⟨w, hw⟩ : ∃ w, w = (if isWithF (A % 16) = true then (Int.tdiv A 16) % (max 1 ents) else -1) := ⟨_, rfl⟩
   have hmx : (if ents > 1 then ents else 1) = max 1 ents := by split <;> omega
   refine Sm.seqC (fun e' L' s' => e' = .normal ∧ Hp (fun _ => False) z [slA none (.slice a l.length cp) 1 l.length (l.map (Value.int .i64))] [blkA p12 p12 (Ln.mk (A % 16) (mkD y sc) w).cells 6, blkA p10 p10 (mkD (sumZ out) sc).cells 4, onA κo vo 6 out.length (lnC out)] s' ∧ Sub [(0, .slice a l.length cp), (1, .int .i64 sc), (2, .int .i64 bend), (3, .int .i64 ents), (9, vo), (10, .pointer (some ⟨p10, 0, none⟩)), (11, .int .i64 ((2 * j : Nat) : Int)), (12, .pointer (some ⟨p12, 0, none⟩))] L') ?_ ?_
   · conv => whnf
     refine hp.load (v := .int .i64 (A % 16)) .d (by rfl) rfl rfl rfl ?_
     conv => whnf
     refine (risWith_spec _ (A % 16)).mono ?_
     rintro _ s1 ⟨h1, rfl⟩
     obtain rfl := h1.symm
     conv => whnf
     cases hq : isWithF (A % 16) with
     | true =>
       rw [if_pos hq] at hw
       repeat ((first | refine Br.y1 ?_ | refine Br.n1 ?_); conv => whnf)
       obtain ⟨f1, f2, f3⟩ := index_i (hp.slR (κ := none) (v := .slice a l.length cp) .here) .i64 (show 2 * j < l.length by omega)
       rw [hAd] at f3
       refine Om.of _ (f2) ?_
       conv => whnf
       refine Om.of _ (f3) ?_
       conv => whnf
       refine Om.of _ (quoI (m := 16) (by decide) hA) ?_
       conv => whnf
       refine (pick_spec _ (tdiv_inR (m := 16) (by decide) hA) (m := if ents > 1 then ents else 1) (by rw [hmx]; omega) (by rw [hmx]; omega)).mono ?_
       rintro _ s1 ⟨h1, rfl⟩
       obtain rfl := h1.symm
       conv => whnf
       rw [hmx, ← hw]
       refine hp.store (off := 5) .d (by show 5 < 6; decide) rfl rfl rfl rfl ?_
       clear hp
       intro s hp _
       conv => whnf
       exact ⟨rfl, hp, subK_ok ⟨rfl, rfl, rfl, rfl, rfl, rfl, rfl, rfl, trivial⟩⟩
     | false =>
       rw [if_neg (by rw [hq]; decide)] at hw
       repeat ((first | refine Br.y1 ?_ | refine Br.n1 ?_); conv => whnf)
       rw [hw]
       exact ⟨rfl, hp, subK_ok ⟨rfl, rfl, rfl, rfl, rfl, rfl, rfl, rfl, trivial⟩⟩
   clear hp
   rintro e' L' s ⟨rfl, hp, hs⟩
   refine Sm.weak _ hs ?_
   clear hs
   have hln2 : lnOf A B sc ents = Ln.mk (A % 16) (mkD (amtY B) sc) w := by unfold lnOf; rw [← hw]
   refine Sm.seqC (fun e' L' s' => e' = .normal ∧ Hp (fun _ => False) z [slA none (.slice a l.length cp) 1 l.length (l.map (Value.int .i64))] [blkA p12 p12 (lnOf A B sc ents).cells 6, blkA p10 p10 (mkD (sumZ out) sc).cells 4, onA κo vo 6 out.length (lnC out)] s' ∧ Sub [(0, .slice a l.length cp), (1, .int .i64 sc), (2, .int .i64 bend), (3, .int .i64 ents), (9, vo), (10, .pointer (some ⟨p10, 0, none⟩)), (11, .int .i64 ((2 * j : Nat) : Int)), (12, .pointer (some ⟨p12, 0, none⟩))] L') ?_ ?_
   · conv => whnf
     rw [hln2]
     refine hp.loadA (l := (mkD y sc).cells) .d rfl (by rfl) rfl rfl ?_
     conv => whnf
     refine hp.call (rsign_spec hp.wf (mkD y sc) (by show y.natAbs < w128; simp only [w128]; omega)) ?_
     clear hp
     rintro _ s rfl hp _
     conv => whnf
     have hsg := sign_mk (x := y) (S := sc) (by omega) sc1 sc2
     by_cases h0 : y = 0
     · rw [if_pos h0] at hamt
       refine Br.yes (beq_iff_eq.2 (hsg.2 h0)) ?_
       conv => whnf
       refine hp.call (rof_spec hp.wf (n := 1) (by unfold inR; decide) sc) ?_
       clear hp
       rintro _ s rfl hp _
       conv => whnf
       rw [ofD_mk2 sc1 sc2]
       refine hp.storeA (off := 1) (vs := (mkD 1 sc).cells) rfl .d (by show 1 + 4 ≤ 6; decide) rfl rfl rfl ?_
       clear hp
       intro s hp _
       rw [hamt]
       conv => whnf
       exact ⟨rfl, hp, subK_ok ⟨rfl, rfl, rfl, rfl, rfl, rfl, rfl, rfl, trivial⟩⟩
     · rw [if_neg h0] at hamt
       refine Br.no (beq_eq_false_iff_ne.2 (fun h => h0 (hsg.1 h))) ?_
       conv => whnf
       rw [hamt]
       exact ⟨rfl, hp, subK_ok ⟨rfl, rfl, rfl, rfl, rfl, rfl, rfl, rfl, trivial⟩⟩
   clear hp
   rintro e' L' s ⟨rfl, hp, hs⟩
   refine Sm.weak _ hs ?_
   clear hs
   have hx : valI (lnOf A B sc ents).amt = amtY B := by rw [hln2]; exact val_mkD _ _
   have hxa : (lnOf A B sc ents).amt = mkD (amtY B) sc := by rw [hln2]
   have hab := (amtY_b B).2
   have hsb : (sumZ out).natAbs ≤ 6 * 1000000 := by
    have h1 := sumZ_b (M := 1000000) out fun x hx => by
     obtain ⟨p, q, rfl⟩ := linesL_good sc ents 6 l x (by rw [heq]; simp [hx])
     show (valI (mkD (amtY q) sc)).natAbs ≤ _
     rw [val_mkD]; exact (amtY_b q).2
    exact Nat.le_trans h1 (Nat.mul_le_mul_right _ (by rw [ho]; exact Nat.le_of_lt hc2))
   generalize hX : lnOf A B sc ents = x at *
   refine Sm.seqW ?_
   conv => whnf
   refine hp.loadA (l := x.cells) .d rfl (by rfl) rfl rfl ?_
   conv => whnf
   refine hp.lit (cs := x.cells) (e := 6) (by rfl) ?_
   clear hp
   intro b4 s4 hp _
   conv => whnf
   have x4 := hp.blkSl (n := 1) (C := x.cells) (k := b4) (b := b4) (e := 6) .d rfl
   refine hp.app LT Tryz.underlying24 rfl (κ := κo) (v := vo) .d (elems_sl x4) rfl rfl (by omega) ?_
   clear hp x4
   intro v5 κ5 s hp
   rw [← lnC_snoc, show out.length + 1 = (out ++ [x]).length by simp] at hp
   conv => whnf
   refine Sm.live [0, 1, 2, 3, 9, 10, 11, 12] ?_
   conv => whnf
   refine Sm.ofW ?_
   conv => whnf
   refine hp.loadA (l := (mkD (sumZ out) sc).cells) .d rfl (by rfl) rfl rfl ?_
   conv => whnf
   refine hp.loadA (l := x.amt.cells) .d rfl (by rfl) rfl rfl ?_
   conv => whnf
   have hxv : (Value.agg x.amt.cells.toArray) = (mkD (amtY B) sc).val := by rw [hxa]; rfl
   rw [hxv]
   refine hp.call (radd_spec hp.wf (mkD (sumZ out) sc) (mkD (amtY B) sc) (by show (sumZ out).natAbs < w128; simp only [w128]; omega) (by show (amtY B).natAbs < w128; simp only [w128]; omega)) ?_
   clear hp
   rintro _ s rfl hp _
   conv => whnf
   rw [addF_D, addD_mkD (by omega) (by omega) sc1 sc2]
   have hsum : sumZ out + amtY B = sumZ (out ++ [x]) := by rw [sumZ_app, sumZ_cons, sumZ_nil, hx]; omega
   rw [hsum]
   conv => whnf
   refine hp.storeW (vs := (mkD (sumZ (out ++ [x])) sc).cells) rfl .d csx rfl rfl rfl ?_
   clear hp
   intro s hp _
   conv => whnf
   refine Sm.ofW ?_
   conv => whnf
   exact ⟨(j + 1, out ++ [x], κ5, v5), by (show 6 - (j + 1) < 6 - j); omega, subK_ok (by refine ⟨rfl, rfl, rfl, rfl, rfl, rfl, congrArg (fun x => some (Value.int .i64 x)) (show IntKind.i64.wrap (((2 * j : Nat) : Int) + 2) = ((2 * (j + 1) : Nat) : Int) by rw [wi64 (by omega) (by omega)]; omega), trivial⟩), by (show j + 1 ≤ 6); omega, by (show (out ++ [x]).length = j + 1); simp; omega, by
    show linesL sc ents 6 l = (out ++ [x]) ++ linesL sc ents (6 - (j + 1)) (l.drop (2 * (j + 1)))
    rw [heq, show 6 - (j + 1) = m by omega]; simp, by (show 2 * (j + 1) ≤ l.length); omega, hp.pik (by repeat (first | exact Pik.nil | exact Pik.refl _ | exact Rm.here | apply Rm.there | apply Pik.cons | apply Pik.skip))⟩
 · refine Br.no (decide_eq_false hc) ?_
   have hend : linesL sc ents 6 l = out := by
    rw [heq, linesL_nil sc ents (by rw [List.length_drop]; omega), List.append_nil]
   have hev := lines_even sc ents l
   rw [hend] at hev
   have hsb : (sumZ out).natAbs < 10 ^ 9 := by
    have h1 := linesL_sum sc ents (Nat.le_refl 6) l
    rw [hend] at h1
    exact Nat.lt_of_le_of_lt h1 (by decide)
   clear heq
   conv => whnf
   obtain ⟨ao, co, rfl⟩ := (hp.slF (κ := κo) (v := vo) .d).shape
   refine Sm.seqC (fun e' L' s' => e' = .normal ∧ ∃ κ5 v5, Hp (fun _ => False) z [slA none (.slice a l.length cp) 1 l.length (l.map (Value.int .i64))] [onA κ5 v5 6 (lines1 out sc).length (lnC (lines1 out sc))] s' ∧ Sub [(2, .int .i64 bend), (9, v5)] L') ?_ ?_
   · conv => whnf
     refine hp.loadA (l := (mkD (sumZ out) sc).cells) .d rfl (by rfl) rfl rfl ?_
     conv => whnf
     refine hp.call (rsign_spec hp.wf (mkD (sumZ out) sc) (by show (sumZ out).natAbs < w128; simp only [w128]; omega)) ?_
     clear hp
     rintro _ s rfl hp _
     conv => whnf
     have hsg := sign_mk (x := sumZ out) (S := sc) (by omega) sc1 sc2
     unfold lines1
     by_cases ho0 : out = []
     · subst ho0
       have q : (!(signF (mkD (sumZ []) sc) == 0)) = false := by rw [beq_iff_eq.2 (hsg.2 rfl)]; rfl
       repeat (first | (refine Br.no q ?_; conv => whnf) | ((first | refine Br.y1 ?_ | refine Br.n1 ?_); conv => whnf))
       refine hp.loadA (l := (mkD 0 sc).cells) .d rfl (by rfl) rfl rfl ?_
       conv => whnf
       have hneg : negF (mkD 0 sc) = mkD 0 sc := by rw [neg_mk (by decide) sc1 sc2]; rfl
       refine hp.call (rneg_spec hp.wf (mkD 0 sc) (by show 0 < w128; decide)) ?_
       clear hp
       rintro _ s rfl hp _
       conv => whnf
       rw [hneg]
       refine hp.alloc (cs := Ln.zero.cells) (e := 6) rfl rfl rfl rfl rfl ?_
       clear hp
       intro p13 s hp _
       conv => whnf
       refine hp.storeW (vs := (Ln.mk 0 (mkD 0 sc) (-1)).cells) rfl .d csx rfl rfl rfl ?_
       clear hp
       intro s hp _
       conv => whnf
       repeat ((first | refine Br.y1 ?_ | refine Br.n1 ?_); conv => whnf)
       refine hp.call (rof_spec hp.wf (n := 5) (by unfold inR; decide) sc) ?_
       clear hp
       rintro _ s rfl hp _
       conv => whnf
       rw [ofD_mk2 sc1 sc2]
       refine hp.storeA (off := 1) (vs := (mkD 5 sc).cells) rfl .d (by show 1 + 4 ≤ 6; decide) rfl rfl rfl ?_
       clear hp
       intro s hp _
       replace hp : Hp (fun _ => False) z [slA none (.slice a l.length cp) 1 l.length (l.map (Value.int .i64))] [blkA p13 p13 (Ln.mk 0 (mkD 5 sc) (-1)).cells 6, blkA p10 p10 (mkD 0 sc).cells 4, onA κo (.slice ao 0 co) 6 0 (lnC [])] s := hp
       conv => whnf
       refine hp.call (rof_spec hp.wf (n := -5) (by unfold inR; decide) sc) ?_
       clear hp
       rintro _ s rfl hp _
       conv => whnf
       rw [ofD_mk2 sc1 sc2]
       refine hp.lit (cs := (Ln.mk 8 (mkD (-5) sc) (-1)).cells) (e := 6) (by rfl) ?_
       clear hp
       intro b4 s4 hp _
       conv => whnf
       have x4 := hp.blkSl (n := 1) (C := (Ln.mk 8 (mkD (-5) sc) (-1)).cells) (k := b4) (b := b4) (e := 6) .d rfl
       refine hp.app LT Tryz.underlying24 rfl (κ := κo) (v := .slice ao 0 co) .d (elems_sl x4) rfl rfl (by omega) ?_
       clear hp x4
       intro v5 κ5 s hp
       rw [← lnC_snoc] at hp
       conv => whnf
       refine hp.loadA (l := (Ln.mk 0 (mkD 5 sc) (-1)).cells) .d rfl (by rfl) rfl rfl ?_
       conv => whnf
       refine hp.lit (cs := (Ln.mk 0 (mkD 5 sc) (-1)).cells) (e := 6) (by rfl) ?_
       clear hp
       intro b6 s6 hp _
       conv => whnf
       have x4 := hp.blkSl (n := 1) (C := (Ln.mk 0 (mkD 5 sc) (-1)).cells) (k := b6) (b := b6) (e := 6) .d rfl
       refine hp.app LT Tryz.underlying24 rfl (κ := κ5) (v := v5) .d (elems_sl x4) rfl rfl (by omega) ?_
       clear hp x4
       intro v7 κ7 s hp
       rw [← lnC_snoc] at hp
       conv => whnf
       rw [if_pos (.inr rfl), if_pos rfl]
       exact ⟨rfl, κ7, v7, hp.pik (by repeat (first | exact Pik.nil | exact Pik.refl _ | exact Rm.here | apply Rm.there | apply Pik.cons | apply Pik.skip)), subK_ok ⟨rfl, rfl, trivial⟩⟩
     · have hlen : 0 < out.length := List.length_pos_iff.2 ho0
       have q1 : (((out.length : Nat) : Int) == 0) = false := beq_eq_false_iff_ne.2 (by omega)
       by_cases hs0 : sumZ out = 0
       · have q : (!(signF (mkD (sumZ out) sc) == 0)) = false := by rw [beq_iff_eq.2 (hsg.2 hs0)]; rfl
         repeat (first | (refine Br.no q ?_; conv => whnf) | (refine Br.no q1 ?_; conv => whnf) | ((first | refine Br.y1 ?_ | refine Br.n1 ?_); conv => whnf))
         rw [if_neg (fun h => by rcases h with h | h; exact h hs0; exact ho0 h)]
         exact ⟨rfl, κo, _, hp.pik (by repeat (first | exact Pik.nil | exact Pik.refl _ | exact Rm.here | apply Rm.there | apply Pik.cons | apply Pik.skip)), subK_ok ⟨rfl, rfl, trivial⟩⟩
       · have q : (!(signF (mkD (sumZ out) sc) == 0)) = true := by rw [beq_eq_false_iff_ne.2 (fun h => hs0 (hsg.1 h))]; rfl
         repeat (first | (refine Br.yes q ?_; conv => whnf) | ((first | refine Br.y1 ?_ | refine Br.n1 ?_); conv => whnf))
         refine hp.loadA (l := (mkD (sumZ out) sc).cells) .d rfl (by rfl) rfl rfl ?_
         conv => whnf
         refine hp.call (rneg_spec hp.wf (mkD (sumZ out) sc) (by show (sumZ out).natAbs < w128; simp only [w128]; omega)) ?_
         clear hp
         rintro _ s rfl hp _
         conv => whnf
         rw [neg_mk (by omega) sc1 sc2]
         refine hp.alloc (cs := Ln.zero.cells) (e := 6) rfl rfl rfl rfl rfl ?_
         clear hp
         intro p13 s hp _
         conv => whnf
         refine hp.storeW (vs := (Ln.mk 0 (mkD (-(sumZ out)) sc) (-1)).cells) rfl .d csx rfl rfl rfl ?_
         clear hp
         intro s hp _
         conv => whnf
         repeat (first | (refine Br.no q1 ?_; conv => whnf) | ((first | refine Br.y1 ?_ | refine Br.n1 ?_); conv => whnf))
         refine hp.loadA (l := (Ln.mk 0 (mkD (-(sumZ out)) sc) (-1)).cells) .d rfl (by rfl) rfl rfl ?_
         conv => whnf
         refine hp.lit (cs := (Ln.mk 0 (mkD (-(sumZ out)) sc) (-1)).cells) (e := 6) (by rfl) ?_
         clear hp
         intro b6 s6 hp _
         conv => whnf
         have x4 := hp.blkSl (n := 1) (C := (Ln.mk 0 (mkD (-(sumZ out)) sc) (-1)).cells) (k := b6) (b := b6) (e := 6) .d rfl
         refine hp.app LT Tryz.underlying24 rfl (κ := κo) (v := .slice ao out.length co) .d (elems_sl x4) rfl rfl (by omega) ?_
         clear hp x4
         intro v7 κ7 s hp
         rw [← lnC_snoc, show out.length + 1 = (out ++ [Ln.mk 0 (mkD (-(sumZ out)) sc) (-1)]).length by simp] at hp
         conv => whnf
         rw [if_pos (.inl hs0), if_neg ho0]
         exact ⟨rfl, κ7, v7, hp.pik (by repeat (first | exact Pik.nil | exact Pik.refl _ | exact Rm.here | apply Rm.there | apply Pik.cons | apply Pik.skip)), subK_ok ⟨rfl, rfl, trivial⟩⟩
   · clear hp
     rintro e' L' s ⟨rfl, κ5, v5, hp, hs⟩
     refine Sm.weak _ hs ?_
     clear hs
     have hls : ∀ x ∈ lines1 out sc, MemLn x := fun x hx => (hev.good x hx).mem en2
     have hl7 := hev.len
     generalize hLS : lines1 out sc = ls at *
     clear hsb
     obtain ⟨k, hk, hk2⟩ : ∃ k : Nat, (bend.tdiv 20) % (ls.length : Int) = k ∧ k < ls.length := by
      have h1 := Int.emod_nonneg (bend.tdiv 20) (show (ls.length : Int) ≠ 0 by omega)
      have h2 := Int.emod_lt_of_pos (bend.tdiv 20) (show (0 : Int) < (ls.length : Int) by omega)
      exact ⟨((bend.tdiv 20) % (ls.length : Int)).toNat, by omega, by omega⟩
     obtain ⟨kb, b5, rfl, hlc, hp⟩ := hp.onBlk (κ := κ5) (v := v5) .d (by omega)
     have hix := idx_at (P := Tryz.prog) LT (b := b5) (off := 0) (c := ls.length) (n := ls.length) .i64 hk2
     rw [Nat.zero_add] at hix
     have hset : ∀ (y : Ln) (s' : St), MemLn y → (bend = 0 → False) → Hp (fun _ => False) z [slA none (.slice a l.length cp) 1 l.length (l.map (Value.int .i64))] [blkA kb b5 (lnC (ls.set k y)) 6] s' → K0 z s' ∧ LinesAns z l sc bend ents (.slice (some ⟨b5, 0, none⟩) ls.length ls.length) s' := by
      intro y s' hy hb0 hp
      have h9 := hp.blkO (n := ls.length) .d (by rw [lnC_len, List.length_set])
      have h10 := h9.out .d
      have e : (ls.set k y).length = ls.length := List.length_set
      refine ⟨hp.fr, ans_own (ls := ls.set k y) (by rw [e]; exact h10) (by rw [e]; exact hl7.1) (by rw [e]; omega) (fun x hx => ?_) (fun h => (hb0 h).elim)⟩
      rcases mem_set hx with g | g
      · rw [g]; exact hy
      · exact hls x g
     have hmk := hls _ (List.getElem_mem hk2)
     refine Sm.seqW ?_
     conv => whnf
     refine Om.of _ (quoI (m := 20) (by decide) hb) ?_
     conv => whnf
     refine (pick_spec _ (tdiv_inR (m := 20) (by decide) hb) (m := (ls.length : Int)) (by omega) (by omega)).mono ?_
     rintro _ s1 ⟨h1, rfl⟩
     obtain rfl := h1.symm
     conv => whnf
     rw [hk]
     refine Sm.live [2, 9, 14] ?_
     conv => whnf
     refine Sm.seq ?_
     refine Sm.seqW ?_
     conv => whnf
     refine (pick_spec _ hb (m := 20) (by decide) (by decide)).mono ?_
     rintro _ s1 ⟨h1, rfl⟩
     obtain rfl := h1.symm
     conv => whnf
     refine Sm.live [2, 9, 14, 104] ?_
     conv => whnf
     refine Sm.ofW ?_
     conv => whnf
     have pk : ∀ (m : Int), 0 < m → 0 ≤ (bend.tdiv 160) % m ∧ (bend.tdiv 160) % m < m := fun m h => ⟨Int.emod_nonneg _ (by omega), Int.emod_lt_of_pos _ h⟩
     by_cases h12 : bend % 20 = 12
     · refine Br.yes (beq_iff_eq.2 h12) ?_
       conv => whnf
       refine Om.of _ (quoI (m := 160) (by decide) hb) ?_
       conv => whnf
       refine (pick_spec _ (tdiv_inR (m := 160) (by decide) hb) (m := 19) (by decide) (by decide)).mono ?_
       rintro _ s1 ⟨h1, rfl⟩
       obtain rfl := h1.symm
       conv => whnf
       have p1 := pk 19 (by decide)
       rw [wi64 (n := (bend.tdiv 160) % 19 - 2) (by omega) (by omega)]
       refine Om.of _ (hix) ?_
       conv => whnf
       refine hp.store (off := k * 6 + 0) .d (by rw [lnC_len]; omega) rfl rfl rfl rfl ?_
       clear hp
       intro s hp _
       rw [lnC_set (y := ⟨(bend.tdiv 160) % 19 - 2, ls[k].amt, ls[k].wth⟩) hk2 (by decide) rfl] at hp
       conv => whnf
       refine Sm.seqW ?_
       conv => whnf
       refine Sm.live [8] ?_
       conv => whnf
       refine Sm.ofW ?_
       conv => whnf
       exact ⟨hset ⟨(bend.tdiv 160) % 19 - 2, ls[k].amt, ls[k].wth⟩ _ ⟨by (show (bend.tdiv 160) % 19 - 2 < 100); omega, hmk.wth, hmk.amt⟩ (fun h => by rw [h] at h12; exact absurd h12 (by decide)) hp⟩
     refine Br.no (beq_eq_false_iff_ne.2 h12) ?_
     conv => whnf
     by_cases h13 : bend % 20 = 13
     · refine Br.yes (beq_iff_eq.2 h13) ?_
       conv => whnf
       refine Om.of _ (quoI (m := 7) (by decide) hb) ?_
       conv => whnf
       refine Om.of _ (quoI (m := 160) (by decide) hb) ?_
       conv => whnf
       refine hp.call (hdec_spec hp.wf hb (tdiv_inR (m := 7) (by decide) hb) (tdiv_inR (m := 160) (by decide) hb)) ?_
       clear hp
       rintro _ s ⟨d, hd1, hd2, rfl⟩ hp _
       conv => whnf
       refine Om.of _ (hix) ?_
       conv => whnf
       refine hp.storeA (off := k * 6 + 1) (vs := d.cells) rfl .d (by rw [lnC_len]; show k * 6 + 1 + 4 ≤ _; omega) rfl rfl rfl ?_
       clear hp
       intro s hp _
       rw [lnC_put (y := ⟨ls[k].acct, d, ls[k].wth⟩) hk2 rfl (by show 1 + 4 ≤ 6; decide)] at hp
       conv => whnf
       refine Sm.seqW ?_
       conv => whnf
       refine Sm.live [8] ?_
       conv => whnf
       refine Sm.ofW ?_
       conv => whnf
       exact ⟨hset ⟨ls[k].acct, d, ls[k].wth⟩ _ ⟨hmk.acct, hmk.wth, hd1⟩ (fun h => by rw [h] at h13; exact absurd h13 (by decide)) hp⟩
     refine Br.no (beq_eq_false_iff_ne.2 h13) ?_
     conv => whnf
     by_cases h14 : bend % 20 = 14
     · refine Br.yes (beq_iff_eq.2 h14) ?_
       conv => whnf
       refine Om.of _ (quoI (m := 160) (by decide) hb) ?_
       conv => whnf
       refine (pick_spec _ (tdiv_inR (m := 160) (by decide) hb) (m := 11) (by decide) (by decide)).mono ?_
       rintro _ s1 ⟨h1, rfl⟩
       obtain rfl := h1.symm
       conv => whnf
       have p1 := pk 11 (by decide)
       rw [wi64 (n := (bend.tdiv 160) % 11 - 2) (by omega) (by omega)]
       refine Om.of _ (hix) ?_
       conv => whnf
       refine hp.store (off := k * 6 + 5) .d (by rw [lnC_len]; omega) rfl rfl rfl rfl ?_
       clear hp
       intro s hp _
       rw [lnC_set (y := ⟨ls[k].acct, ls[k].amt, (bend.tdiv 160) % 11 - 2⟩) hk2 (by decide) rfl] at hp
       conv => whnf
       refine Sm.seqW ?_
       conv => whnf
       refine Sm.live [8] ?_
       conv => whnf
       refine Sm.ofW ?_
       conv => whnf
       exact ⟨hset ⟨ls[k].acct, ls[k].amt, (bend.tdiv 160) % 11 - 2⟩ _ ⟨hmk.acct, by (show (bend.tdiv 160) % 11 - 2 < 100); omega, hmk.amt⟩ (fun h => by rw [h] at h14; exact absurd h14 (by decide)) hp⟩
     refine Br.no (beq_eq_false_iff_ne.2 h14) ?_
     conv => whnf
     by_cases h15 : bend % 20 = 15
     · refine Br.yes (beq_iff_eq.2 h15) ?_
       conv => whnf
       replace hp := hp.blkO (n := ls.length) .d hlc
       refine Lp.ofS (α := List Ln × Option Nat × Value) (fun x => [(2, .int .i64 bend), (9, x.2.2)])
        (fun x s' => 1 ≤ x.1.length ∧ x.1.length ≤ 9 ∧ (∀ y ∈ x.1, MemLn y) ∧ Hp (fun _ => False) z [slA none (.slice a l.length cp) 1 l.length (l.map (Value.int .i64))] [onA x.2.1 x.2.2 6 x.1.length (lnC x.1)] s') (fun x => 9 - x.1.length) ?_ (ls, _, _) (subK_ok (by refine ⟨rfl, rfl, trivial⟩)) ⟨hl7.1, by show ls.length ≤ 9; omega, hls, hp⟩
       clear hp hset
       rintro ⟨L, κL, vL⟩ s ⟨hL1, hL9, hLm, hp⟩
       simp only at hL1 hL9 hLm hp
       obtain ⟨aL, cL, rfl⟩ := (hp.slF (κ := κL) (v := vL) .d).shape
       refine Sm.seq ?_
       refine Sm.seqW ?_
       conv => whnf
       refine Sm.live [2, 9, 141] ?_
       conv => whnf
       refine Sm.ofW ?_
       conv => whnf
       refine Br.mk (fun hc => ?_) (fun hc => ?_)
       · have hc : L.length < 9 := by have : ((L.length : Nat) : Int) < 9 := of_decide_eq_true hc; omega
         obtain ⟨e, f1, f2⟩ := index_ln (hp.slF (κ := κL) (v := .slice aL L.length cL) .d) .i64 (i := 0) hL1
         have hm0 := hLm _ (List.getElem_mem (show 0 < L.length from hL1))
         generalize hx0 : L[0] = x at *
         conv => whnf
         refine Sm.block ?_
         refine Sm.ofW ?_
         conv => whnf
         refine Om.of _ (f1) ?_
         conv => whnf
         refine Om.of _ (f2) ?_
         conv => whnf
         refine hp.lit (cs := x.cells) (e := 6) (by rfl) ?_
         clear hp
         intro b4 s4 hp _
         conv => whnf
         have x4 := hp.blkSl (n := 1) (C := x.cells) (k := b4) (b := b4) (e := 6) .d rfl
         refine hp.app LT Tryz.underlying24 rfl (κ := κL) (v := .slice aL L.length cL) .d (elems_sl x4) rfl rfl (by omega) ?_
         clear hp x4
         intro v5 κ5 s hp
         rw [← lnC_snoc, show L.length + 1 = (L ++ [x]).length by simp] at hp
         conv => whnf
         exact ⟨(L ++ [x], κ5, v5), by (show 9 - (L ++ [x]).length < 9 - L.length); simp; omega, subK_ok (by refine ⟨rfl, rfl, trivial⟩), by (show 1 ≤ (L ++ [x]).length); simp, by (show (L ++ [x]).length ≤ 9); simp; omega, fun y hy => by
          rcases List.mem_append.1 hy with g | g
          · exact hLm y g
          · obtain rfl := List.mem_singleton.1 g; exact hm0, hp.pik (by repeat (first | exact Pik.nil | exact Pik.refl _ | exact Rm.here | apply Rm.there | apply Pik.cons | apply Pik.skip))⟩
       · have hc : L.length = 9 := by have : ¬ ((L.length : Nat) : Int) < 9 := of_decide_eq_false hc; omega
         conv => whnf
         refine Om.of _ (quoI (m := 160) (by decide) hb) ?_
         conv => whnf
         refine (pick_spec _ (tdiv_inR (m := 160) (by decide) hb) (m := 3) (by decide) (by decide)).mono ?_
         rintro _ s1 ⟨h1, rfl⟩
         obtain rfl := h1.symm
         conv => whnf
         have p1 := pk 3 (by decide)
         obtain ⟨m, hm⟩ : ∃ m : Nat, 7 + (bend.tdiv 160) % 3 = m := ⟨(7 + (bend.tdiv 160) % 3).toNat, by omega⟩
         rw [wi64 (n := 7 + (bend.tdiv 160) % 3) (by omega) (by omega), hm]
         obtain ⟨v', f1, f2⟩ := slice_sl LT (hp.slF (κ := κL) (v := .slice aL L.length cL) .d) .i64 .i64 none (some m) (by simp) (by simp only [Option.getD_some]; omega)
         refine Om.of _ (f1) ?_
         conv => whnf
         refine Sm.seqW ?_
         conv => whnf
         refine Sm.live [8] ?_
         conv => whnf
         refine Sm.ofW ?_
         conv => whnf
         simp only [Option.getD_some, Option.getD_none, Nat.zero_mul, List.drop_zero, Nat.sub_zero] at f2
         have et : (lnC L).take (m * 6) = lnC (L.take m) := by
          have e1 : L = L.take m ++ L.drop m := (List.take_append_drop _ _).symm
          conv => lhs; rw [e1, lnC_app]
          exact List.take_left' (by rw [lnC_len, List.length_take]; omega)
         rw [et] at f2
         have elen : (L.take m).length = m := by rw [List.length_take]; omega
         refine ⟨hp.fr, ⟨L.take m, κL, by rw [Sln, elen]; exact f2, fun j hj => ?_, by omega, by omega, fun x hx => hLm x (List.mem_of_mem_take hx), fun h => by rw [h] at h15; exact absurd h15 (by decide)⟩⟩
         rcases hp.own _ (List.mem_cons_self ..) j hj with g | g
         · exact g.elim
         · exact g
     refine Br.no (beq_eq_false_iff_ne.2 h15) ?_
     conv => whnf
     by_cases h16 : bend % 20 = 16
     · refine Br.yes (beq_iff_eq.2 h16) ?_
       conv => whnf
       refine Om.of _ (hix) ?_
       conv => whnf
       refine hp.loadA (l := ls[k].amt.cells) .d rfl (lnC_sl hk2) rfl rfl ?_
       conv => whnf
       refine hp.call (rneg_spec hp.wf ls[k].amt hmk.amt) ?_
       clear hp
       rintro _ s rfl hp _
       conv => whnf
       refine Om.of _ (hix) ?_
       conv => whnf
       refine hp.storeA (off := k * 6 + 1) (vs := (negF ls[k].amt).cells) rfl .d (by rw [lnC_len]; show k * 6 + 1 + 4 ≤ _; omega) rfl rfl rfl ?_
       clear hp
       intro s hp _
       rw [lnC_put (y := ⟨ls[k].acct, negF ls[k].amt, ls[k].wth⟩) hk2 rfl (by show 1 + 4 ≤ 6; decide)] at hp
       conv => whnf
       refine Sm.seqW ?_
       conv => whnf
       refine Sm.live [8] ?_
       conv => whnf
       refine Sm.ofW ?_
       conv => whnf
       have hnc : (negF ls[k].amt).c < w128 := by
        unfold negF
        split
        · exact hmk.amt
        · show 0 < w128; decide
       exact ⟨hset ⟨ls[k].acct, negF ls[k].amt, ls[k].wth⟩ _ ⟨hmk.acct, hmk.wth, hnc⟩ (fun h => by rw [h] at h16; exact absurd h16 (by decide)) hp⟩
     refine Br.no (beq_eq_false_iff_ne.2 h16) ?_
     conv => whnf
     refine Sm.seqW ?_
     conv => whnf
     refine Sm.live [8] ?_
     conv => whnf
     refine Sm.ofW ?_
     conv => whnf
     have h9 := hp.blkO (n := ls.length) .d hlc
     exact ⟨hp.fr, ans_own (h9.out .d) hl7.1 (by omega) hls (fun _ => by rw [hend]; exact hLS.symm)⟩
end

/- Lines that are alike; chapter 12's example. No condition. -/
section
variable [Lk]
theorem ln_e (a b : Ln) : evEq Tryz.prog 10000 35 a.val b.val = some (a.acct == b.acct && ((a.amt.neg == b.amt.neg && ((((a.amt.c % w64 : Nat) : Int) == ((b.amt.c % w64 : Nat) : Int) && ((a.amt.c / w64 : Nat) : Int) == ((b.amt.c / w64 : Nat) : Int)) && a.amt.scale == b.amt.scale)) && a.wth == b.wth)) := by
 obtain ⟨aa, ⟨an, ac, ae⟩, aw⟩ := a
 obtain ⟨ba, ⟨bn, bc, be⟩, bw⟩ := b
 have key : ∀ qa q1 q2 r qw : Bool, (aa == ba) = qa → (((ac % w64 : Nat) : Int) == ((bc % w64 : Nat) : Int)) = q1 → (((ac / w64 : Nat) : Int) == ((bc / w64 : Nat) : Int)) = q2 → (ae == be) = r → (aw == bw) = qw → evEq Tryz.prog 10000 35 (Ln.val ⟨aa, ⟨an, ac, ae⟩, aw⟩) (Ln.val ⟨ba, ⟨bn, bc, be⟩, bw⟩) = some (qa && ((an == bn && ((q1 && q2) && r)) && qw)) := by
  intro qa q1 q2 r qw h0 h1 h2 h3 h4
  cases an <;> cases bn
  all_goals first
   | (show (match (some (aa == ba) : Option Bool) with | some true => (match (match (match (some (((ac % w64 : Nat) : Int) == ((bc % w64 : Nat) : Int)) : Option Bool) with | some true => (match (some (((ac / w64 : Nat) : Int) == ((bc / w64 : Nat) : Int)) : Option Bool) with | some true => some true | some false => some false | none => none) | some false => some false | none => none) with | some true => (match (some (ae == be) : Option Bool) with | some true => some true | some false => some false | none => none) | some false => some false | none => none) with | some true => (match (some (aw == bw) : Option Bool) with | some true => some true | some false => some false | none => none) | some false => some false | none => none) | some false => some false | none => none) = _
      rw [h0, h1, h2, h3, h4]
      cases qa <;> cases q1 <;> cases q2 <;> cases r <;> cases qw <;> rfl)
   | (show (match (some (aa == ba) : Option Bool) with | some true => some false | some false => some false | none => none) = _
      rw [h0]
      cases qa <;> rfl)
 exact key _ _ _ _ _ rfl rfl rfl rfl rfl
def eqLn (a b : Ln) : Bool := a.acct == b.acct && (eqD a.amt b.amt && a.wth == b.wth)
theorem ln_ne (a b : Ln) (c : Bool) : evBin Tryz.prog .neq 35 c a.val b.val = some (.bool (!eqLn a b)) := by
 have hg : Tryz.prog.eqGuardType Tryz.prog.depth 35 = false := by decide +kernel
 show (match !(Tryz.prog.eqGuardType Tryz.prog.depth 35) with | false => none | true => (match evEq Tryz.prog 10000 35 a.val b.val with | some b => some (Value.bool (!b)) | none => none)) = _
 rw [hg, ln_e, words_eq]; rfl
theorem eqLn_self (a : Ln) : eqLn a a = true := by
 unfold eqLn eqD
 simp
theorem eqLn_iff {a b : Ln} : eqLn a b = true ↔ a = b := by
 constructor
 · intro h
   unfold eqLn eqD at h
   simp only [Bool.and_eq_true, beq_iff_eq, decide_eq_true_eq] at h
   obtain ⟨aa, ⟨an, ac, ae⟩, aw⟩ := a
   obtain ⟨ba, ⟨bn, bc, be⟩, bw⟩ := b
   simp only at h
   obtain ⟨h1, ⟨h2, h3, h4⟩, h5⟩ := h
   subst h1 h2 h3 h4 h5
   rfl
 · rintro rfl; exact eqLn_self a
def exT : List UInt8 := [48, 58, 49, 48, 46, 53, 48, 44, 56, 58, 45, 49, 48, 46, 53, 48]
def exL : List Ln := [⟨0, ⟨false, 1050, 2⟩, -1⟩, ⟨8, ⟨true, 1050, 2⟩, -1⟩]
theorem ex_read : readL exT = (exL, 0) := by kernel_rfl
theorem ex_print : printL exL = exT := by kernel_rfl
theorem ex_right : rightLF exL 2 = 0 := by kernel_rfl
theorem eknown_spec {z : St} (wf : WF z) (hg : Gs z) : Cw Tryz.prog 17 [] z fun r s' => K0 z s' ∧ r = .bool true := by
 have hp : Hp (fun _ => False) z [] [] z := Hp.start _ wf _ (by simp)
 refine Cw.enterS Tryz.func17 rfl rfl ?_
 refine Sm.seqW ?_
 conv => whnf
 refine Sm.seqW ?_
 conv => whnf
 refine hp.call (eread_spec hp.wf hg exT (by decide)) ?_
 intro r s hr h1 k1
 obtain ⟨w, rfl, how⟩ := hr
 rw [ex_read] at how ⊢
 obtain ⟨κ, hp⟩ := hp.on k1 how
 clear h1 k1 how
 obtain ⟨aw, cw, rfl⟩ := (hp.slF (κ := κ) (v := w) .d).shape
 conv => whnf
 refine Sm.live [1, 2] ?_
 conv => whnf
 refine Sm.seqW ?_
 conv => whnf
 refine ⟨[0, 1, 3, 7, 15, 31, 63, 127, 255, 511, 1023, 255, 2303, 8191, 16383, 32767, 65535, 131071, 262143, 524287, 1048575, 2097151, 4194303, 8388607, 16777215, 33554431], by decide +kernel, by decide +kernel, ?_⟩
 conv => whnf
 have hmem : ∀ x ∈ exL, MemLn x := by
  intro x hx
  simp only [exL, List.mem_cons, List.not_mem_nil, or_false] at hx
  rcases hx with rfl | rfl <;> exact ⟨by decide, by decide, by decide⟩
 repeat ((first | refine Br.y1 ?_ | refine Br.n1 ?_); conv => whnf)
 obtain ⟨e, f1, f2⟩ := index_ln (hp.slF (κ := κ) (v := .slice aw exL.length cw) .d) .i64 (i := 1) (by decide)
 refine Om.of _ (f1) ?_
 conv => whnf
 repeat ((first | refine Br.y1 ?_ | refine Br.n1 ?_); conv => whnf)
 refine Om.of _ (f2) ?_
 conv => whnf
 repeat ((first | refine Br.y1 ?_ | refine Br.n1 ?_); conv => whnf)
 refine hp.rst.call (rof_spec hp.rst.wf (n := -1050) (by unfold inR; decide) 2) ?_
 rintro _ s1 rfl h1 k1
 conv => whnf
 refine hp.dkN h1 k1 ?_
 clear hp h1 k1
 intro s hp
 conv => whnf
 repeat ((first | refine Br.y1 ?_ | refine Br.n1 ?_); conv => whnf)
 refine Om.of (.bool true) (by kernel_rfl) ?_
 conv => whnf
 repeat ((first | refine Br.y1 ?_ | refine Br.n1 ?_); conv => whnf)
 refine hp.rst.call (eright_spec hp.rst.wf (hp.rst.slF (κ := κ) (v := .slice aw exL.length cw) .d) (fun x hx => (hmem x hx).amt) (by decide) 2) ?_
 rintro _ s1 rfl h1 k1
 conv => whnf
 refine hp.dkN h1 k1 ?_
 clear hp h1 k1
 intro s hp
 conv => whnf
 rw [ex_right]
 repeat ((first | refine Br.y1 ?_ | refine Br.n1 ?_); conv => whnf)
 refine hp.rst.call (eprint_spec hp.rst.wf (hp.rst.slF (κ := κ) (v := .slice aw exL.length cw) .d) hmem (by decide)) ?_
 rintro _ s1 rfl h1 k1
 conv => whnf
 refine hp.dkN h1 k1 ?_
 clear hp h1 k1
 intro s hp
 conv => whnf
 rw [ex_print]
 repeat ((first | refine Br.y1 ?_ | refine Br.n1 ?_); conv => whnf)
 refine Om.of _ (sv_eq exT exT) ?_
 conv => whnf
 repeat ((first | refine Br.y1 ?_ | refine Br.n1 ?_); conv => whnf)
 refine Sm.live [0] ?_
 conv => whnf
 refine Sm.ofW ?_
 conv => whnf
 exact ⟨hp.fr, rfl⟩
end

/- EntryLimits walked. No condition. -/
section
variable [Lk]
theorem mod5 (x : Int) : 0 ≤ x % 5 ∧ x % 5 < 5 := ⟨Int.emod_nonneg _ (by decide), Int.emod_lt_of_pos _ (by decide)⟩
theorem pickN (x : Int) {n : Nat} (h : 0 < n) : ∃ k : Nat, x % (n : Int) = k ∧ k < n := by
 have h1 := Int.emod_nonneg x (show (n : Int) ≠ 0 by omega)
 have h2 := Int.emod_lt_of_pos x (show (0 : Int) < (n : Int) by omega)
 exact ⟨(x % (n : Int)).toNat, by omega, by omega⟩
end

/- EntryBack walked. No condition. -/
section
variable [Lk]
instance lnDec : DecidableEq Ln := fun a b => decidable_of_iff (eqLn a b = true) eqLn_iff
theorem esame_spec {z : St} (wf : WF z) {κ κ' : Option Nat} {v w : Value} {a b : List Ln} (hv : Sln z κ v a) (hw : Sln z κ' w b) (ha : a.length ≤ 1000) :
  Cw Tryz.prog 25 [v, w] z fun r s' => K0 z s' ∧ r = .bool (decide (a = b)) := by
 obtain ⟨a1, c1, rfl⟩ := hv.shape
 obtain ⟨a2, c2, rfl⟩ := hw.shape
 have hp : Hp (fun _ => False) z [slA κ (.slice a1 a.length c1) 6 a.length (lnC a), slA κ' (.slice a2 b.length c2) 6 b.length (lnC b)] [] z := Hp.start _ wf _ (by simp; exact ⟨hv, hw⟩)
 refine Cw.enterS Tryz.func25 rfl rfl ?_
 refine Sm.seqW ?_
 conv => whnf
 refine Sm.live [0, 1] ?_
 conv => whnf
 refine Sm.seq ?_
 refine Sm.seqW ?_
 conv => whnf
 refine Sm.live [0, 1, 10] ?_
 conv => whnf
 refine Sm.ofW ?_
 conv => whnf
 by_cases hl : a.length = b.length
 · refine Br.no (by show (!(((a.length : Nat) : Int) == ((b.length : Nat) : Int))) = false; rw [beq_iff_eq.2 (by omega)]; rfl) ?_
   conv => whnf
   refine Sm.seq ?_
   refine Sm.seqW ?_
   conv => whnf
   refine Sm.live [0, 1, 12, 13] ?_
   conv => whnf
   refine Sm.block ?_
   refine Sm.loop ?_
   refine Lp.ofS (α := Nat) (fun i => [(0, .slice a1 a.length c1), (1, .slice a2 b.length c2), (12, .int .i64 ((a.length : Nat) : Int)), (13, .int .i64 (i : Int))])
    (fun i s' => i ≤ a.length ∧ a.take i = b.take i ∧ Hp (fun _ => False) z [slA κ (.slice a1 a.length c1) 6 a.length (lnC a), slA κ' (.slice a2 b.length c2) 6 b.length (lnC b)] [] s') (fun i => a.length - i) ?_ 0 (subK_ok (by refine ⟨rfl, rfl, rfl, rfl, trivial⟩)) ⟨Nat.zero_le _, rfl, hp⟩
   clear hp
   rintro i s ⟨hi, heq, hp⟩
   refine Sm.seqW ?_
   conv => whnf
   refine Sm.live [0, 1, 12, 13, 14] ?_
   conv => whnf
   refine Sm.seq ?_
   refine Sm.ofW ?_
   conv => whnf
   refine Br.mk (fun hc => ?_) (fun hc => ?_)
   · have hc : i < a.length := by have : (i : Int) < ((a.length : Nat) : Int) := of_decide_eq_true hc; omega
     obtain ⟨e1, f1, f2⟩ := index_ln (hp.slR (κ := κ) (v := .slice a1 a.length c1) .here) .i64 hc
     obtain ⟨e2, f3, f4⟩ := index_ln (hp.slR (κ := κ') (v := .slice a2 b.length c2) (.there .here)) .i64 (show i < b.length by omega)
     conv => whnf
     refine Sm.seq ?_
     refine Sm.block ?_
     refine Sm.seqW ?_
     conv => whnf
     refine Sm.live [0, 1, 5, 12, 13] ?_
     conv => whnf
     refine Sm.seqW ?_
     conv => whnf
     refine ⟨[0, 0, 3, 7, 0, 0, 48, 112, 255], by decide +kernel, by decide +kernel, ?_⟩
     conv => whnf
     refine Om.of _ (f1) ?_
     conv => whnf
     refine Om.of _ (f2) ?_
     conv => whnf
     refine Om.of _ (f3) ?_
     conv => whnf
     refine Om.of _ (f4) ?_
     conv => whnf
     refine Om.of _ (ln_ne a[i] (b[i]'(by omega)) _) ?_
     conv => whnf
     refine Sm.live [0, 1, 12, 13, 24] ?_
     conv => whnf
     refine Sm.ofW ?_
     conv => whnf
     have t1 : a.take (i + 1) = a.take i ++ [a[i]] := List.take_succ_eq_append_getElem hc
     have t2 : b.take (i + 1) = b.take i ++ [b[i]'(by omega)] := List.take_succ_eq_append_getElem (by omega)
     cases hq : eqLn a[i] (b[i]'(by omega)) with
     | true =>
       repeat ((first | refine Br.y1 ?_ | refine Br.n1 ?_); conv => whnf)
       refine Sm.ofW ?_
       conv => whnf
       exact ⟨i + 1, by (show a.length - (i + 1) < a.length - i); omega, subK_ok (by refine ⟨rfl, rfl, rfl, congrArg (fun x => some (Value.int .i64 x)) (show IntKind.i64.wrap ((i : Int) + 1) = ((i + 1 : Nat) : Int) by rw [wi64 (by omega) (by omega)]; omega), trivial⟩), by omega, by rw [t1, t2, heq, eqLn_iff.1 hq], hp⟩
     | false =>
       repeat ((first | refine Br.y1 ?_ | refine Br.n1 ?_); conv => whnf)
       refine ⟨hp.fr, congrArg Value.bool (decide_eq_false (fun h => ?_)).symm⟩
       have : a[i] = b[i]'(by omega) := by simp [h]
       rw [eqLn_iff.2 this] at hq; cases hq
   · have hc : i = a.length := by have : ¬ (i : Int) < ((a.length : Nat) : Int) := of_decide_eq_false hc; omega
     subst hc
     rw [List.take_length, hl, List.take_length] at heq
     conv => whnf
     refine Sm.seqW ?_
     conv => whnf
     refine Sm.live [4] ?_
     conv => whnf
     refine Sm.ofW ?_
     conv => whnf
     exact ⟨hp.fr, congrArg Value.bool (decide_eq_true heq).symm⟩
 · refine Br.yes (by show (!(((a.length : Nat) : Int) == ((b.length : Nat) : Int))) = true; rw [beq_eq_false_iff_ne.2 (by omega)]; rfl) ?_
   conv => whnf
   exact ⟨hp.fr, congrArg Value.bool (decide_eq_false (fun h => hl (by rw [h]))).symm⟩
end

/- EntryEven walked. No condition. -/
section
variable [Lk]
end

/- EntryKnown walked. No condition. -/
section
variable [Lk]
end
end Go.Ev
