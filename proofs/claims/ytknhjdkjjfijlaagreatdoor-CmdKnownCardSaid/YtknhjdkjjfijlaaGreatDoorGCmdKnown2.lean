/- Several texts in one: what the law's text leans on, one behind the other. No condition but those that each theorem names. -/
import Derived.Test.YtknhjdkjjfijlaaGreatDoorGCmdKnown1
import Derived.Test.YtknhjdkjjfijlaaGreatDoorKCmdKnownF1
import Derived.Stop.LaidErr
import Derived.LaidSub
noncomputable section
namespace Go.Ev
open Go.Proofs
set_option linter.unusedVariables false
set_option linter.unusedSectionVars false
set_option maxRecDepth 100000
/- Itoa of numbers of two digits. No condition. -/
section
variable [Lk]
def itoaF (n : Nat) : List UInt8 := if n < 10 then [dgt n] else [dgt (n / 10), dgt (n % 10)]
def tab2 : List UInt8 := (List.range 100).flatMap fun n => [dgt (n / 10), dgt (n % 10)]
theorem tab2_at : ∀ n, n < 100 → 10 ≤ n → ((tab2.drop (n * 2)).take (n * 2 + 2 - n * 2)) = [dgt (n / 10), dgt (n % 10)] := by decide +kernel
theorem tab2_len : tab2.length = 200 := by decide +kernel
theorem ismall2_spec (s : St) {n : Nat} (hn : n < 100) : Cw Tryz.prog 150 [.int .i64 (n : Int)] s fun r s' => s' = s ∧ r = sv (itoaF n) := by
 by_cases h : n < 10
 · rw [itoaF, if_pos h]; exact ismall_spec s h
 rw [itoaF, if_neg h]
 refine Cw.enterS Tryz.func150 rfl rfl ?_
 refine Sm.seqW ?_
 conv => whnf
 refine Sm.live [0, 2] ?_
 conv => whnf
 refine Sm.seq ?_
 refine Sm.seqW ?_
 conv => whnf
 refine Sm.ofW ?_
 conv => whnf
 refine Br.no (decide_eq_false (by omega)) ?_
 conv => whnf
 have e : IntKind.i64.wrap ((n : Int) * 2) = ((n * 2 : Nat) : Int) := by rw [wi64 (by omega) (by omega)]; omega
 have e2 : IntKind.i64.wrap (((n * 2 : Nat) : Int) + 2) = ((n * 2 + 2 : Nat) : Int) := by rw [wi64 (by omega) (by omega)]; omega
 refine Sm.seqW ?_
 conv => whnf
 rw [e, e2]
 refine Om.of _ (str_slice Tryz.underlying9 (l := tab2) .i64 .i64 (some (n * 2)) (some (n * 2 + 2)) (by simp only [Option.getD_some]; omega) (by rw [tab2_len]; simp only [Option.getD_some]; omega)) ?_
 conv => whnf
 refine Sm.ofW ?_
 conv => whnf
 exact ⟨rfl, congrArg sv (tab2_at n hn (by omega))⟩
theorem fmtInt2_spec (s : St) {n : Nat} (hn : n < 100) : Cw Tryz.prog 134 [.int .i64 (n : Int), .int .i64 10] s fun r s' => s' = s ∧ r = sv (itoaF n) := by
 refine Cw.enterS Tryz.func134 rfl rfl ?_
 refine Sm.seqW ?_
 conv => whnf
 refine Sm.live [0, 1, 4] ?_
 conv => whnf
 refine Sm.seq ?_
 refine Sm.seqW ?_
 conv => whnf
 refine Sm.ofW ?_
 conv => whnf
 have h1 : decide ((0 : Int) ≤ (n : Int)) = true := decide_eq_true (by omega)
 have h2 : decide ((n : Int) < 100) = true := decide_eq_true (by omega)
 repeat (first | (refine Br.yes h1 ?_; conv => whnf) | (refine Br.yes h2 ?_; conv => whnf) | ((first | refine Br.y1 ?_ | refine Br.n1 ?_); conv => whnf))
 refine (ismall2_spec _ hn).mono ?_
 rintro _ s1 ⟨h1, rfl⟩
 obtain rfl := h1.symm
 conv => whnf
 exact ⟨rfl, rfl⟩
theorem iitoa2_spec (s : St) {n : Nat} (hn : n < 100) : Cw Tryz.prog 107 [.int .i64 (n : Int)] s fun r s' => s' = s ∧ r = sv (itoaF n) := by
 refine Cw.enterS Tryz.func107 rfl rfl ?_
 refine Sm.seqW ?_
 conv => whnf
 refine Sm.seqW ?_
 conv => whnf
 refine (fmtInt2_spec _ hn).mono ?_
 rintro _ s1 ⟨h1, rfl⟩
 obtain rfl := h1.symm
 conv => whnf
 refine Sm.ofW ?_
 conv => whnf
 exact ⟨rfl, rfl⟩
theorem itoa2_spec (s : St) {n : Nat} (hn : n < 100) : Cw Tryz.prog 62 [.int .i64 (n : Int)] s fun r s' => s' = s ∧ r = sv (itoaF n) := by
 refine Cw.enterS Tryz.func62 rfl rfl ?_
 refine Sm.seqW ?_
 conv => whnf
 refine Sm.seqW ?_
 conv => whnf
 refine (iitoa2_spec _ hn).mono ?_
 rintro _ s1 ⟨h1, rfl⟩
 obtain rfl := h1.symm
 conv => whnf
 refine Sm.ofW ?_
 conv => whnf
 exact ⟨rfl, rfl⟩
end

/- Numbers of texts: Atoi, for numbers of two digits. No condition. -/
section
variable [Lk]
theorem toError2_spec {z : St} (wf : WF z) (hg : Gs z) (f l : List UInt8) (hl : l.length ≤ 281474976710656) (k : Int) (hk : k = 1 ∨ k = 2) :
  Cw Tryz.prog 146 [sv f, sv l, .int .i64 0, .int .i64 0, erV k] z fun r s' => K0 z s' ∧ ∃ v, r = .iface 216 v := by
 have hp : Hp (fun _ => False) z [] [] z := Hp.start _ wf _ (by simp)
 refine Cw.enterS Tryz.func146 rfl rfl ?_
 refine Sm.seqW ?_
 conv => whnf
 refine Sm.live [0, 1, 2, 3, 4, 10] ?_
 conv => whnf
 refine Sm.seq ?_
 refine Sm.seqW ?_
 conv => whnf
 refine Sm.block ?_
 refine Sm.seqW ?_
 conv => whnf
 rcases hk with rfl | rfl
 · refine Om.of (.bool false) (by kernel_rfl) ?_
   conv => whnf
   refine Sm.ofW ?_
   conv => whnf
   repeat ((first | refine Br.y1 ?_ | refine Br.n1 ?_); conv => whnf)
   refine Om.of (.bool true) (by kernel_rfl) ?_
   conv => whnf
   repeat ((first | refine Br.y1 ?_ | refine Br.n1 ?_); conv => whnf)
   refine hp.call (rangeError_spec hp.wf (hg.keep hp.fr) f l hl) ?_
   clear hp
   intro v s _ hp _
   conv => whnf
   exact ⟨hp.fr, _, rfl⟩
 · refine Om.of (.bool true) (by kernel_rfl) ?_
   conv => whnf
   refine Sm.ofW ?_
   conv => whnf
   repeat ((first | refine Br.y1 ?_ | refine Br.n1 ?_); conv => whnf)
   refine hp.call (syntaxError_spec hp.wf (hg.keep hp.fr) f l hl) ?_
   clear hp
   intro v s _ hp _
   conv => whnf
   exact ⟨hp.fr, _, rfl⟩
structure AtoiB (l : List UInt8) (r : Value) : Prop where
 ex : ∃ (n : Int) (e : Value), r = .tuple #[.int .i64 n, e] ∧ (-9223372036854775808 ≤ n ∧ n < 9223372036854775808) ∧ (e = .nilIface ∨ e = erV 1 ∨ e = erV 2) ∧ ∀ k, k < 100 → l = itoaF k → n = (k : Int) ∧ e = .nilIface
def fstD (k : Nat) : Nat := if k < 10 then k else k / 10
theorem fstD_lt {k : Nat} (h : k < 100) : fstD k < 10 := by unfold fstD; split <;> omega
theorem itoaF_len {k : Nat} : (itoaF k).length = if k < 10 then 1 else 2 := by unfold itoaF; split <;> rfl
theorem itoaF_0 {k : Nat} (h : 0 < (itoaF k).length) : (itoaF k)[0] = dgt (fstD k) := by
 unfold itoaF fstD
 by_cases g : k < 10
 · simp [g]
 · simp [g]
theorem itoaF_1 {k : Nat} (h : 1 < (itoaF k).length) : 10 ≤ k ∧ (itoaF k)[1] = dgt (k % 10) := by
 by_cases g : k < 10
 · rw [itoaF_len, if_pos g] at h; omega
 · refine ⟨by omega, ?_⟩
   simp [itoaF, g]
theorem iatoi2_spec {z : St} (wf : WF z) (l : List UInt8) (hl : l.length ≤ 281474976710656) :
  Cw Tryz.prog 145 [sv l] z fun r s' => K0 z s' ∧ AtoiB l r := by
 have hp : Hp (fun _ => False) z [] [] z := Hp.start _ wf _ (by simp)
 refine Cw.enterS Tryz.func145 rfl rfl ?_
 refine Sm.seqW ?_
 conv => whnf
 refine Sm.live [0, 2, 3] ?_
 conv => whnf
 refine Sm.seqW ?_
 conv => whnf
 refine Sm.live [0, 4] ?_
 conv => whnf
 refine Sm.seq ?_
 refine Sm.seqC (fun e L' s' => e = .normal ∧ s' = z ∧ ∃ B, (B = true → 0 < l.length) ∧ (0 < l.length → l.length < 3 → B = true) ∧ Sub [(0, sv l), (4, .int .i64 ((l.length : Nat) : Int)), (30, .bool B)] L') ?_ ?_
 · conv => whnf
   by_cases h1 : 0 < l.length
   · have q1 : decide ((0 : Int) < (((bs ⟨l.toArray⟩).length : Nat) : Int)) = true := decide_eq_true (by show (0 : Int) < ((l.length : Nat) : Int); omega)
     by_cases h2 : l.length < 19
     · have q2 : decide ((((bs ⟨l.toArray⟩).length : Nat) : Int) < 19) = true := decide_eq_true (by show ((l.length : Nat) : Int) < 19; omega)
       repeat (first | (refine Br.yes q1 ?_; conv => whnf) | (refine Br.yes q2 ?_; conv => whnf) | ((first | refine Br.y1 ?_ | refine Br.n1 ?_); conv => whnf))
       exact ⟨rfl, rfl, true, fun _ => h1, fun _ _ => rfl, subK_ok ⟨rfl, rfl, by first | rfl | exact congrArg (fun x => some (Value.bool x)) q2, trivial⟩⟩
     · have q2 : decide ((((bs ⟨l.toArray⟩).length : Nat) : Int) < 19) = false := decide_eq_false (by show ¬ ((l.length : Nat) : Int) < 19; omega)
       repeat (first | (refine Br.yes q1 ?_; conv => whnf) | (refine Br.no q2 ?_; conv => whnf) | ((first | refine Br.y1 ?_ | refine Br.n1 ?_); conv => whnf))
       exact ⟨rfl, rfl, false, fun h => (by cases h), fun h _ => (by omega), subK_ok ⟨rfl, rfl, by first | rfl | exact congrArg (fun x => some (Value.bool x)) q2, trivial⟩⟩
   · have q1 : decide ((0 : Int) < (((bs ⟨l.toArray⟩).length : Nat) : Int)) = false := decide_eq_false (by show ¬ (0 : Int) < ((l.length : Nat) : Int); omega)
     repeat (first | (refine Br.no q1 ?_; conv => whnf) | ((first | refine Br.y1 ?_ | refine Br.n1 ?_); conv => whnf))
     exact ⟨rfl, rfl, false, fun h => (by cases h), fun h _ => (by omega), subK_ok ⟨rfl, rfl, by first | rfl | exact congrArg (fun x => some (Value.bool x)) q1, trivial⟩⟩
 rintro e L' s' ⟨rfl, rfl, B, hB1, hB2, hs⟩
 refine Sm.weak _ hs ?_
 clear hs
 cases B with
 | false =>
   refine Sm.cond (v := false) rfl (fun h => (by cases h)) (fun _ => ?_)
   refine Sm.ofW ?_
   conv => whnf
   refine Sm.seqW ?_
   conv => whnf
   refine hp.call (parseInt_spec hp.wf l hl) ?_
   clear hp
   rintro _ s ⟨n, e, rfl, h1, h2, he⟩ hp _
   conv => whnf
   refine Sm.live [9, 10] ?_
   conv => whnf
   refine Sm.seqW ?_
   conv => whnf
   refine Sm.ofW ?_
   conv => whnf
   exact ⟨hp.fr, ⟨n, e, rfl, ⟨h1, h2⟩, he, fun k hk hlk => absurd (hB2 (by rw [hlk, itoaF_len]; split <;> decide) (by rw [hlk, itoaF_len]; split <;> decide)) (by decide)⟩⟩
 | true =>
   have h1 := hB1 rfl
   clear hB1 hB2
   have hsg : ∀ k, k < 100 → l = itoaF k → l[0] = dgt (fstD k) := fun k hk h => by subst h; exact itoaF_0 h1
   refine Sm.cond (v := true) rfl (fun _ => ?_) (fun h => (by cases h))
   refine Sm.seqW ?_
   conv => whnf
   refine Sm.live [0, 4, 5] ?_
   conv => whnf
   refine Sm.seq ?_
   refine Sm.mono (Q := fun e L' s2 => (e = .normal ∧ s2 = s' ∧ ∃ l' : List UInt8, (∀ k, k < 100 → l = itoaF k → l' = l) ∧ l'.length ≤ l.length ∧ Sub [(0, sv l'), (5, sv l)] L') ∨ (e = .ret ∧ retK Tryz.prog Tryz.f145.results.toList (fun r s2 => K0 s' s2 ∧ AtoiB l r) .ret L' s2)) ?_ ?_
   · refine Sm.seqW ?_
     conv => whnf
     refine Om.of _ (str_index Tryz.underlying9 (l := l) (i := 0) h1 .i64) ?_
     conv => whnf
     have b1 : ∀ {p : Prop}, ((l[0].toNat : Int) == 45) = true → (∀ k, k < 100 → l = itoaF k → p) := fun {p} h k hk hlk => absurd (beq_iff_eq.1 h) (by rw [hsg k hk hlk]; have := (dgt_sign _ (fstD_lt hk)).1; omega)
     have b2 : ∀ {p : Prop}, ((l[0].toNat : Int) == 43) = true → (∀ k, k < 100 → l = itoaF k → p) := fun {p} h k hk hlk => absurd (beq_iff_eq.1 h) (by rw [hsg k hk hlk]; have := (dgt_sign _ (fstD_lt hk)).2; omega)
     repeat' (first | (refine Br.yes (by first | with_reducible rfl | with_reducible assumption) ?_; conv => whnf) | (refine Br.no (by first | with_reducible rfl | with_reducible assumption) ?_; conv => whnf) | (refine Om.of _ (str_index Tryz.underlying9 (l := l) (i := 0) h1 .i64) ?_; conv => whnf) | (refine Br.mk (fun hq => ?_) (fun hq => ?_) <;> conv => whnf))
     all_goals
      refine Sm.ofW ?_
      conv => whnf
      repeat' (first | (refine Br.yes (by first | with_reducible rfl | with_reducible assumption) ?_; conv => whnf) | (refine Br.no (by first | with_reducible rfl | with_reducible assumption) ?_; conv => whnf) | (refine Om.of _ (str_drop Tryz.underlying9 (l := l) .i64 (j := 1) h1) ?_; conv => whnf) | (refine Br.mk (fun hq => ?_) (fun hq => ?_) <;> conv => whnf))
     all_goals first
      | exact .inl ⟨rfl, rfl, l, fun _ _ _ => rfl, Nat.le_refl _, subK_ok ⟨rfl, rfl, trivial⟩⟩
      | exact .inl ⟨rfl, rfl, l.drop 1, fun k hk hlk => b1 (by assumption) k hk hlk, by (rw [List.length_drop]; omega), subK_ok ⟨rfl, rfl, trivial⟩⟩
      | exact .inl ⟨rfl, rfl, l.drop 1, fun k hk hlk => b2 (by assumption) k hk hlk, by (rw [List.length_drop]; omega), subK_ok ⟨rfl, rfl, trivial⟩⟩
      | (refine .inr ⟨rfl, ?_⟩; (conv => whnf); exact ⟨hp.fr, ⟨0, erV 2, rfl, ⟨by decide, by decide⟩, .inr (.inr rfl), fun k hk hlk => b1 (by assumption) k hk hlk⟩⟩)
      | (refine .inr ⟨rfl, ?_⟩; (conv => whnf); exact ⟨hp.fr, ⟨0, erV 2, rfl, ⟨by decide, by decide⟩, .inr (.inr rfl), fun k hk hlk => b2 (by assumption) k hk hlk⟩⟩)
   rintro e L' s2 (⟨rfl, rfl, l', hl1, hl2, hs⟩ | ⟨rfl, hh⟩)
   · refine Sm.weak _ hs ?_
     clear hs
     refine Sm.seqW ?_
     conv => whnf
     refine Sm.live [0, 5, 6] ?_
     conv => whnf
     refine Sm.seq ?_
     refine Sm.seqW ?_
     conv => whnf
     refine hp.bytesOf Tryz.underlying9 Tryz.underlying59 Tryz.underlying5 ⟨l'.toArray⟩ ?_
     clear hp
     intro b s hp _
     conv => whnf
     refine Sm.live [5, 6, 47, 48, 49] ?_
     conv => whnf
     refine Sm.block ?_
     refine Sm.loop ?_
     refine Lp.ofS (α := Nat × Int) (fun x => [(5, sv l), (6, .int .i64 x.2), (47, .slice (some ⟨b, 0, none⟩) l'.length l'.length), (48, .int .i64 ((l'.length : Nat) : Int)), (49, .int .i64 (x.1 : Int))])
      (fun x s' => x.1 ≤ l'.length ∧ (-9223372036854775808 ≤ x.2 ∧ x.2 < 9223372036854775808) ∧ (∀ k, k < 100 → l = itoaF k → (x.1 = 0 → x.2 = 0) ∧ (x.1 = 1 → x.2 = (fstD k : Int)) ∧ (x.1 = 2 → x.2 = (k : Int))) ∧ Hp (fun _ => False) s2 [] [blkA b b (byteVals l') 1] s') (fun x => l'.length - x.1) ?_ (0, 0) (subK_ok (by refine ⟨rfl, rfl, rfl, rfl, rfl, trivial⟩)) ⟨Nat.zero_le _, ⟨by decide, by decide⟩, fun k hk h => ⟨fun _ => rfl, fun h => (by cases h), fun h => (by cases h)⟩, hp⟩
     clear hp
     rintro ⟨i, n⟩ s ⟨hi, hn, hx, hp⟩
     have hi : i ≤ l'.length := hi
     have hn : -9223372036854775808 ≤ n ∧ n < 9223372036854775808 := hn
     have hx : ∀ k, k < 100 → l = itoaF k → (i = 0 → n = 0) ∧ (i = 1 → n = (fstD k : Int)) ∧ (i = 2 → n = (k : Int)) := hx
     refine Sm.seqW ?_
     conv => whnf
     refine Sm.live [5, 6, 47, 48, 49, 50] ?_
     conv => whnf
     refine Sm.seq ?_
     refine Sm.ofW ?_
     conv => whnf
     refine Br.mk (fun hq => ?_) (fun hq => ?_)
     · have hq : i < l'.length := by have : (i : Int) < (l'.length : Int) := of_decide_eq_true hq; omega
       obtain ⟨p, y, e1, e2, e3, _, rfl⟩ := index_sl UB Tryz.underlying5 rfl (hp.blkSl (n := l'.length) .d (by rw [byteVals_length]; omega)) .i64 hq
       have e4 : y = .int .u8 ((l'[i].toNat : Nat) : Int) := by
        unfold byteVals at e2
        rw [List.getElem?_map, List.getElem?_eq_getElem hq] at e2
        injection e2 with e2; exact e2.symm
       subst e4
       have hc1 : ∀ k, k < 100 → l = itoaF k → (i = 0 ∧ l'[i] = dgt (fstD k)) ∨ (i = 1 ∧ 10 ≤ k ∧ l'[i] = dgt (k % 10)) := fun k hk h => by
        have h9 := hl1 k hk h
        subst h9
        subst h
        have hlen := itoaF_len (k := k)
        by_cases i0 : i = 0
        · subst i0
          exact .inl ⟨rfl, itoaF_0 hq⟩
        · have i1 : i = 1 := by
           split at hlen <;> omega
          subst i1
          exact .inr ⟨rfl, itoaF_1 hq⟩
       have hc2 : ∀ k, k < 100 → l = itoaF k → IntKind.u8.wrap ((l'[i].toNat : Int) - 48) < 10 := fun k hk h => by
        rcases hc1 k hk h with ⟨_, g⟩ | ⟨_, _, g⟩
        · rw [g, dgt_sub _ (fstD_lt hk)]; have := fstD_lt hk; omega
        · rw [g, dgt_sub _ (by omega)]; omega
       generalize hc : l'[i] = c at *
       conv => whnf
       refine Sm.seq ?_
       refine Sm.block ?_
       refine Sm.seqW ?_
       conv => whnf
       refine Om.of _ (e1) ?_
       conv => whnf
       refine Om.of _ (e3) ?_
       conv => whnf
       refine Sm.live [5, 6, 8, 47, 48, 49] ?_
       conv => whnf
       refine Sm.ofW ?_
       conv => whnf
       refine Br.mk (fun h9 => ?_) (fun h9 => ?_)
       · conv => whnf
         exact ⟨hp.fr, ⟨0, erV 2, rfl, ⟨by decide, by decide⟩, .inr (.inr rfl), fun k hk h => absurd (of_decide_eq_true h9) (by have := hc2 k hk h; omega)⟩⟩
       · conv => whnf
         refine Sm.ofW ?_
         conv => whnf
         exact ⟨(i + 1, _), by (show l'.length - (i + 1) < l'.length - i); omega, subK_ok (by refine ⟨rfl, rfl, rfl, rfl, congrArg (fun x => some (Value.int .i64 x)) (show IntKind.i64.wrap ((i : Int) + 1) = ((i + 1 : Nat) : Int) by rw [wi64 (by omega) (by omega)]; omega), trivial⟩), by (show i + 1 ≤ l'.length); omega, i64_rng _, fun k hk h => ⟨fun h8 => (by cases h8), fun h8 => by
          rcases hc1 k hk h with ⟨g1, g2⟩ | ⟨g1, _⟩
          · show IntKind.i64.wrap (IntKind.i64.wrap (n * 10) + IntKind.i64.wrap (IntKind.u8.wrap ((c.toNat : Int) - 48))) = (fstD k : Int)
            have hf := fstD_lt hk
            rw [(hx k hk h).1 g1, g2, dgt_sub _ hf, wi64 (n := (0 : Int) * 10) (by decide) (by decide), wi64 (n := (fstD k : Int)) (by omega) (by omega), wi64 (by omega) (by omega)]; omega
          · have h8 : i + 1 = 1 := h8
            omega, fun h8 => by
          rcases hc1 k hk h with ⟨g1, g2⟩ | ⟨g1, g3, g2⟩
          · have h8 : i + 1 = 2 := h8
            omega
          · show IntKind.i64.wrap (IntKind.i64.wrap (n * 10) + IntKind.i64.wrap (IntKind.u8.wrap ((c.toNat : Int) - 48))) = (k : Int)
            have hf : fstD k = k / 10 := if_neg (by omega)
            rw [(hx k hk h).2.1 g1, g2, dgt_sub _ (show k % 10 < 10 by omega), hf, wi64 (n := ((k / 10 : Nat) : Int) * 10) (by omega) (by omega), wi64 (n := ((k % 10 : Nat) : Int)) (by omega) (by omega), wi64 (by omega) (by omega)]; omega⟩, hp⟩
     · have hq : i = l'.length := by have := of_decide_eq_false hq; omega
       have fin : ∀ k, k < 100 → l = itoaF k → n = (k : Int) := fun k hk h => by
        have hlen : i = if k < 10 then 1 else 2 := by rw [hq, hl1 k hk h, h, itoaF_len]
        by_cases g : k < 10
        · rw [if_pos g] at hlen
          have := (hx k hk h).2.1 hlen
          unfold fstD at this
          rw [if_pos g] at this
          exact this
        · rw [if_neg g] at hlen
          exact (hx k hk h).2.2 hlen
       conv => whnf
       refine Sm.seq ?_
       refine Sm.seqW ?_
       conv => whnf
       refine Om.of _ (str_index Tryz.underlying9 (l := l) (i := 0) h1 .i64) ?_
       conv => whnf
       refine Sm.live [5, 6, 66] ?_
       conv => whnf
       refine Sm.ofW ?_
       conv => whnf
       refine Br.mk (fun h9 => ?_) (fun h9 => ?_)
       · conv => whnf
         refine Sm.live [6] ?_
         conv => whnf
         refine Sm.seqW ?_
         conv => whnf
         refine Sm.ofW ?_
         conv => whnf
         exact ⟨hp.fr, ⟨_, .nilIface, rfl, i64_rng _, .inl rfl, fun k hk h => absurd (beq_iff_eq.1 h9) (by rw [hsg k hk h]; have := (dgt_sign _ (fstD_lt hk)).1; omega)⟩⟩
       · conv => whnf
         refine Sm.live [6] ?_
         conv => whnf
         refine Sm.seqW ?_
         conv => whnf
         refine Sm.ofW ?_
         conv => whnf
         exact ⟨hp.fr, ⟨n, .nilIface, rfl, hn, .inl rfl, fun k hk h => ⟨fin k hk h, rfl⟩⟩⟩
   · exact hh
theorem atoi2_spec {z : St} (wf : WF z) (hg : Gs z) (l : List UInt8) (hl : l.length ≤ 281474976710656) :
  Cw Tryz.prog 128 [sv l] z fun r s' => K0 z s' ∧ ∃ (n : Int) (e : Value), r = .tuple #[.int .i64 n, e] ∧ (-9223372036854775808 ≤ n ∧ n < 9223372036854775808) ∧ (e = .nilIface ∨ ∃ v, e = .iface 216 v) ∧ ∀ k, k < 100 → l = itoaF k → n = (k : Int) ∧ e = .nilIface := by
 have hp : Hp (fun _ => False) z [] [] z := Hp.start _ wf _ (by simp)
 refine Cw.enterS Tryz.func128 rfl rfl ?_
 refine Sm.seqW ?_
 conv => whnf
 refine Sm.live [0, 2, 3] ?_
 conv => whnf
 refine Sm.seqW ?_
 conv => whnf
 refine hp.call (iatoi2_spec hp.wf l hl) ?_
 clear hp
 rintro _ s ⟨n, e, rfl, h1, he, hk⟩ hp _
 conv => whnf
 refine Sm.live [0, 4, 5] ?_
 conv => whnf
 refine Sm.seq ?_
 refine Sm.seqW ?_
 conv => whnf
 rcases he with rfl | rfl | rfl
 · refine Om.of (.bool false) (by kernel_rfl) ?_
   conv => whnf
   refine Sm.ofW ?_
   conv => whnf
   repeat ((first | refine Br.y1 ?_ | refine Br.n1 ?_); conv => whnf)
   refine Sm.seqW ?_
   conv => whnf
   refine Sm.ofW ?_
   conv => whnf
   exact ⟨hp.fr, ⟨n, _, rfl, h1, .inl rfl, hk⟩⟩
 · refine Om.of (.bool true) (by kernel_rfl) ?_
   conv => whnf
   refine Sm.ofW ?_
   conv => whnf
   repeat ((first | refine Br.y1 ?_ | refine Br.n1 ?_); conv => whnf)
   refine hp.call (toError2_spec hp.wf (hg.keep hp.fr) [65, 116, 111, 105] l hl 1 (.inl rfl)) ?_
   clear hp
   rintro _ s ⟨v, rfl⟩ hp _
   conv => whnf
   exact ⟨hp.fr, ⟨n, _, rfl, h1, .inr ⟨v, rfl⟩, fun k h1 h2 => absurd (hk k h1 h2).2 (by unfold erV; intro h; cases h)⟩⟩
 · refine Om.of (.bool true) (by kernel_rfl) ?_
   conv => whnf
   refine Sm.ofW ?_
   conv => whnf
   repeat ((first | refine Br.y1 ?_ | refine Br.n1 ?_); conv => whnf)
   refine hp.call (toError2_spec hp.wf (hg.keep hp.fr) [65, 116, 111, 105] l hl 2 (.inr rfl)) ?_
   clear hp
   rintro _ s ⟨v, rfl⟩ hp _
   conv => whnf
   exact ⟨hp.fr, ⟨n, _, rfl, h1, .inr ⟨v, rfl⟩, fun k h1 h2 => absurd (hk k h1 h2).2 (by unfold erV; intro h; cases h)⟩⟩
end

/- Texts that are cut at a byte, and put together again, without a program. No condition. -/
section
variable [Lk]
def splitL (c : UInt8) : List UInt8 → List (List UInt8)
 | [] => [[]]
 | x :: xs => if x = c then [] :: splitL c xs else (x :: (splitL c xs).headD []) :: (splitL c xs).tail
def joinL (c : UInt8) : List (List UInt8) → List UInt8
 | [] => []
 | x :: r => x ++ r.flatMap fun w => c :: w
theorem splitL_ne (c : UInt8) : ∀ l, splitL c l ≠ []
 | [] => by simp [splitL]
 | x :: xs => by unfold splitL; split <;> simp
theorem splitL_cons {c x : UInt8} {xs : List UInt8} (h : x ≠ c) {w : List UInt8} {r : List (List UInt8)} (hs : splitL c xs = w :: r) : splitL c (x :: xs) = (x :: w) :: r := by
 rw [splitL, if_neg h, hs]; rfl
theorem splitL_hd {c : UInt8} {xs : List UInt8} : splitL c (c :: xs) = [] :: splitL c xs := by
 rw [splitL, if_pos rfl]
theorem beq_toNat (x c : UInt8) : Nat.beq x.toNat c.toNat = decide (x = c) := by
 by_cases h : x = c
 · subst h; rw [Nat.beq_refl, decide_eq_true rfl]
 · rw [decide_eq_false h]
   cases hb : Nat.beq x.toNat c.toNat with
   | false => rfl
   | true => exact absurd (UInt8.toNat_inj.1 (Nat.eq_of_beq_eq_true hb)) h
theorem idxL_sh (c : Nat) : ∀ (l : List UInt8) (i : Nat), idxL c l i = (idxL c l 0).map (· + i)
 | [], i => rfl
 | x :: xs, i => by
   unfold idxL
   cases Nat.beq x.toNat c with
   | true => simp
   | false =>
     show idxL c xs (i + 1) = (idxL c xs (0 + 1)).map (· + i)
     rw [idxL_sh c xs (i + 1), idxL_sh c xs (0 + 1), Option.map_map]
     congr 1
     funext a; simp only [Function.comp]; omega
theorem cntL_shift (c : Nat) : ∀ (l : List UInt8) (n : Nat), cntL c l n = cntL c l 0 + n
 | [], n => by simp [cntL]
 | x :: xs, n => by
   unfold cntL
   cases Nat.beq x.toNat c with
   | true =>
     show cntL c xs (n + 1) = cntL c xs (0 + 1) + n
     rw [cntL_shift c xs (n + 1), cntL_shift c xs (0 + 1)]; omega
   | false => exact cntL_shift c xs n
theorem split_idx (c : UInt8) : ∀ l : List UInt8, splitL c l = match idxL c.toNat l 0 with
  | some i => l.take i :: splitL c (l.drop (i + 1))
  | none => [l]
 | [] => rfl
 | x :: xs => by
   have ih := split_idx c xs
   unfold idxL
   rw [beq_toNat]
   by_cases h : x = c
   · subst h
     rw [decide_eq_true rfl, splitL_hd]; rfl
   · rw [decide_eq_false h]
     show _ = (match idxL c.toNat xs (0 + 1) with
      | some i => (x :: xs).take i :: splitL c ((x :: xs).drop (i + 1))
      | none => [x :: xs])
     rw [idxL_sh]
     cases hi : idxL c.toNat xs 0 with
     | none =>
       rw [hi] at ih
       exact splitL_cons h ih
     | some i =>
       rw [hi] at ih
       rw [splitL_cons h ih]
       rfl
theorem split_some {c : UInt8} {l : List UInt8} {i : Nat} (h : idxL c.toNat l 0 = some i) : splitL c l = l.take i :: splitL c (l.drop (i + 1)) := by
 rw [split_idx, h]
theorem split_none {c : UInt8} {l : List UInt8} (h : idxL c.toNat l 0 = none) : splitL c l = [l] := by
 rw [split_idx, h]
theorem split_cnt (c : UInt8) : ∀ l : List UInt8, (splitL c l).length = cntL c.toNat l 0 + 1
 | [] => rfl
 | x :: xs => by
   have ih := split_cnt c xs
   unfold cntL
   rw [beq_toNat]
   by_cases h : x = c
   · subst h
     rw [decide_eq_true rfl, splitL_hd, List.length_cons, ih]
     show _ = cntL _ xs (0 + 1) + 1
     rw [cntL_shift _ xs (0 + 1)]
   · rw [decide_eq_false h]
     cases hs : splitL c xs with
     | nil => exact absurd hs (splitL_ne c xs)
     | cons w r =>
       rw [splitL_cons h hs]
       rw [hs] at ih
       exact ih
theorem cntL_le (c : Nat) : ∀ l : List UInt8, cntL c l 0 ≤ l.length
 | [] => by simp [cntL]
 | x :: xs => by
   have := cntL_le c xs
   unfold cntL
   cases Nat.beq x.toNat c with
   | true => show cntL c xs (0 + 1) ≤ _; rw [cntL_shift c xs (0 + 1)]; simp only [List.length_cons]; omega
   | false => simp only [List.length_cons]; omega
theorem mem_split_len {c : UInt8} : ∀ {l w : List UInt8}, w ∈ splitL c l → w.length ≤ l.length
 | [], w, h => by simp [splitL] at h; subst h; simp
 | x :: xs, w, h => by
   by_cases hx : x = c
   · subst hx; rw [splitL_hd] at h
     rcases List.mem_cons.1 h with rfl | h
     · simp
     · have := mem_split_len h; simp only [List.length_cons]; omega
   · cases hs : splitL c xs with
     | nil => exact absurd hs (splitL_ne c xs)
     | cons v r =>
       rw [splitL_cons hx hs] at h
       rcases List.mem_cons.1 h with rfl | h
       · have := mem_split_len (c := c) (l := xs) (w := v) (by rw [hs]; simp); simp only [List.length_cons]; omega
       · have := mem_split_len (c := c) (l := xs) (w := w) (by rw [hs]; simp [h]); simp only [List.length_cons]; omega
end

/- Lines of an entry as text, without a program: the program's way, and the document's, to read one. No condition. -/
section
variable [Lk]
def readD (l : List UInt8) : Dc × Int :=
 if readOk (bodyF l) = false then (Dc.zero, 2) else if 10 ^ 30 ≤ valD (wholeF (bodyF l) ++ restF (bodyF l)) then (Dc.zero, 3)
 else if (hasP l [45] && decide (valD (wholeF (bodyF l) ++ restF (bodyF l)) = 0)) = true then (Dc.zero, 2) else (⟨hasP l [45], valD (wholeF (bodyF l) ++ restF (bodyF l)), (restF (bodyF l)).length⟩, 0)
structure Ln where
 acct : Int
 amt : Dc
 wth : Int
def Ln.zero : Ln := ⟨0, Dc.zero, 0⟩
def cut1 (c : UInt8) (l : List UInt8) : List UInt8 := match idxL c.toNat l 0 with
 | some i => l.take i
 | none => l
def cut2 (c : UInt8) (l : List UInt8) : List UInt8 := match idxL c.toNat l 0 with
 | some i => l.drop (i + 1)
 | none => []
def cutQ (c : UInt8) (l : List UInt8) : Bool := (idxL c.toNat l 0).isSome
def smallF (l : List UInt8) : Int := match (List.range 100).find? fun k => l == itoaF k with
 | some k => (k : Int)
 | none => -1
def lessN (l : List UInt8) : Bool := match bodyF l with
 | a :: b :: _ => a == 48 && !(b == 46)
 | _ => false
def oneF (t : List UInt8) : Ln × Int :=
 let rest := cut2 58 t
 if (!cutQ 58 t || (decide (smallF (cut1 58 t) < 0) || (cutQ 64 rest && decide (smallF (cut2 64 rest) < 0)))) = true then (Ln.zero, 2) else
 let d := readD (cut1 64 rest)
 if ((d.2 == 0 && !(printF d.1 == cut1 64 rest)) || lessN (cut1 64 rest)) = true then (Ln.zero, 2) else
 (⟨smallF (cut1 58 t), d.1, if cutQ 64 rest = true then smallF (cut2 64 rest) else -1⟩, d.2)
def readL (s : List UInt8) : List Ln × Int :=
 if 8 < (splitL 44 s).length then ([], 2) else
 if ((splitL 44 s).any fun t => (oneF t).2 == 2) = true then ([], 2) else
 if ((splitL 44 s).any fun t => !((oneF t).2 == 0)) = true then ([], 3) else ((splitL 44 s).map fun t => (oneF t).1, 0)
theorem readD_e (l : List UInt8) : (readD l).2 = 0 ∨ (readD l).2 = 2 ∨ (readD l).2 = 3 := by
 unfold readD
 split
 · simp
 · split
   · simp
   · split <;> simp
theorem oneF_e (l : List UInt8) : (oneF l).2 = 0 ∨ (oneF l).2 = 2 ∨ (oneF l).2 = 3 := by
 unfold oneF
 simp only
 split
 · simp
 · split
   · simp
   · exact readD_e _
theorem smallF_ok {l : List UInt8} (h : ¬ smallF l < 0) : ∃ k, k < 100 ∧ l = itoaF k ∧ smallF l = (k : Int) := by
 unfold smallF at h ⊢
 cases hf : (List.range 100).find? fun k => l == itoaF k with
 | none => rw [hf] at h; exact absurd (by decide) h
 | some k =>
   have h1 := List.find?_some hf
   have h2 := List.mem_of_find?_eq_some hf
   exact ⟨k, List.mem_range.1 h2, beq_iff_eq.1 h1, rfl⟩
theorem smallF_no {l : List UInt8} (h : smallF l < 0) : ∀ k, k < 100 → l ≠ itoaF k := by
 unfold smallF at h
 cases hf : (List.range 100).find? fun k => l == itoaF k with
 | some k => rw [hf] at h; exact absurd h (by simp only; omega)
 | none =>
   intro k hk e
   have := List.find?_eq_none.1 hf k (List.mem_range.2 hk)
   rw [e] at this; simp at this
theorem readF_D (l : List UInt8) : readF l = .tuple #[(readD l).1.val, .int .i64 (readD l).2] := by
 unfold readF readD
 split
 · rfl
 · split
   · rfl
   · split <;> rfl
end

/- A line of a text: the program's way and the document's are the same, without a program. No condition. -/
section
variable [Lk]
end

/- Lines that are right, without a program. No condition. -/
section
variable [Lk]
end

/- Raw numbers as lines that come to nothing, without a program. No condition. -/
section
variable [Lk]
end

/- Lines of an entry as text, without a program: what is printed is read the same. No condition. -/
section
variable [Lk]
theorem cut_app {c : UInt8} {x : List UInt8} (h : ∀ b ∈ x, b ≠ c) (r : List UInt8) : cut1 c (x ++ c :: r) = x ∧ cut2 c (x ++ c :: r) = r ∧ cutQ c (x ++ c :: r) = true := by
 have hi : idxL c.toNat (x ++ c :: r) 0 = some x.length := by
  rw [idxL_skip x _ 0 (fun y hy e => h y hy (UInt8.toNat_inj.1 e)), Nat.zero_add]
  unfold idxL
  rw [Nat.beq_refl]
 unfold cut1 cut2 cutQ
 rw [hi]
 refine ⟨by simp, ?_, rfl⟩
 simp
theorem cut_self {c : UInt8} {x : List UInt8} (h : ∀ b ∈ x, b ≠ c) : cut1 c x = x ∧ cutQ c x = false := by
 have hi : idxL c.toNat x 0 = none := by
  have := idxL_skip (c := c.toNat) x [] 0 (fun y hy e => h y hy (UInt8.toNat_inj.1 e))
  rw [List.append_nil] at this
  rw [this]; rfl
 unfold cut1 cutQ
 rw [hi]
 exact ⟨rfl, rfl⟩
theorem print_nil {d : Dc} : printF d = [] ↔ d.right = false := by
 constructor
 · intro h
   cases hr : d.right with
   | false => rfl
   | true =>
     obtain ⟨W, R, pt, h0, _, _, _, _, _, _, _, e⟩ := print_parts hr
     rw [e] at h
     unfold txt at h
     simp at h
     exact absurd h.2.1 h0
 · intro h
   unfold printF
   rw [if_pos h]
def lineT (x : Ln) : List UInt8 := itoaF x.acct.toNat ++ 58 :: (printF x.amt ++ (if 0 ≤ x.wth then 64 :: itoaF x.wth.toNat else []))
def badLn (x : Ln) : Bool := decide (x.acct < 0) || (decide (x.wth < -1) || printF x.amt == [])
def printL (ls : List Ln) : List UInt8 := if ls.any badLn = true then [] else joinL 44 (ls.map lineT)
end

/- strings.Split at a byte, walked. No condition. -/
section
variable [Lk]
theorem SG : SlT Tryz.prog 95 9 1 16 (.string ⟨#[]⟩) := ⟨Tryz.underlying95, ⟨_, rfl, rfl, rfl, rfl⟩, rfl, rfl, by decide, by decide⟩
theorem cnt_ext (s : St) (l : List UInt8) (c : UInt8) : Cw Tryz.prog 144 [sv l, .int .u8 ((c.toNat : Nat) : Int)] s fun r s' => s' = s ∧ r = .int .i64 ((cntL c.toNat l 0 : Nat) : Int) := by
 refine ⟨⟨_, s, ⟨rfl, rfl⟩, .inr (.inl ⟨rfl, _, Tryz.func144, rfl, ?_⟩)⟩⟩
 have hc : Nat.blt c.toNat 256 = true := blt_of c.toNat_lt
 have : evExt "internal/bytealg.CountString" [sv l, .int .u8 ((c.toNat : Nat) : Int)] = some (.int .i64 ((cntL c.toNat l 0 : Nat) : Int)) := by
  unfold evExt
  rw [show ("internal/bytealg.CountString" == "internal/bytealg.IndexByteString") = false from by decide +kernel, show ("internal/bytealg.CountString" == "internal/bytealg.CountString") = true from rfl]
  show (match Nat.blt c.toNat 256 with
   | true => some (Value.int .i64 (.ofNat (cntL c.toNat (bs ⟨l.toArray⟩) 0)))
   | false => none) = _
  rw [hc, bs_mk]
  rfl
 exact this
theorem count_spec (s : St) (l : List UInt8) (c : UInt8) : Cw Tryz.prog 127 [sv l, sv [c]] s fun r s' => s' = s ∧ r = .int .i64 ((cntL c.toNat l 0 : Nat) : Int) := by
 refine Cw.enterS Tryz.func127 rfl rfl ?_
 refine Sm.seqW ?_
 conv => whnf
 refine Sm.live [0, 1] ?_
 conv => whnf
 refine Sm.seq ?_
 refine Sm.seqW ?_
 conv => whnf
 refine Sm.ofW ?_
 conv => whnf
 repeat ((first | refine Br.y1 ?_ | refine Br.n1 ?_); conv => whnf)
 refine Sm.seq ?_
 refine Sm.seqW ?_
 conv => whnf
 refine Sm.ofW ?_
 conv => whnf
 repeat ((first | refine Br.y1 ?_ | refine Br.n1 ?_); conv => whnf)
 refine Om.of _ (str_index Tryz.underlying9 (l := [c]) (i := 0) (by simp) .i64) ?_
 conv => whnf
 refine (cnt_ext _ l c).mono ?_
 rintro _ s1 ⟨h1, rfl⟩
 obtain rfl := h1.symm
 conv => whnf
 exact ⟨rfl, rfl⟩
theorem sindex_spec (s : St) (l : List UInt8) (c : UInt8) : Cw Tryz.prog 121 [sv l, sv [c]] s fun r s' => s' = s ∧ r = .int .i64 (ixI (idxL c.toNat l 0)) := by
 refine Cw.enterS Tryz.func121 rfl rfl ?_
 refine Sm.seqW ?_
 conv => whnf
 refine Sm.seqW ?_
 conv => whnf
 refine (index1_spec _ l c).mono ?_
 rintro _ s1 ⟨h1, rfl⟩
 obtain rfl := h1.symm
 conv => whnf
 refine Sm.ofW ?_
 conv => whnf
 exact ⟨rfl, rfl⟩
theorem map_set_at {α β : Type} (f : α → β) (a : List α) (x y : α) (b : List β) : (a.map f ++ f x :: b).set a.length (f y) = (a ++ [y]).map f ++ b := by
 rw [List.set_append_right _ _ (by simp), List.length_map, Nat.sub_self]
 simp
theorem Hp.blkO {X : Nat → Prop} {s0 s : St} {R F G : List At} {k b e n : Nat} {C : List Value} (h : Hp X s0 R F s) (r : Rm (blkA k b C e) F G) (hl : C.length = n * e) : Hp X s0 R (onA (some k) (.slice (some ⟨b, 0, none⟩) n n) e n C :: G) s :=
 h.as r (fun hb => ⟨.inr ⟨k, rfl, b, rfl, hb, hl⟩⟩) fun j hj => by (injection hj with hj; exact hj.symm)
theorem gsplit_spec {z : St} (wf : WF z) (l : List UInt8) (hl : l.length ≤ 10000000000000) (c : UInt8) :
  Cw Tryz.prog 100 [sv l, sv [c], .int .i64 0, .int .i64 (-1)] z fun r s' => K0 z s' ∧ OwnN z.next s' r 1 (splitL c l).length ((splitL c l).map sv) := by
 have hp : Hp (fun _ => False) z [] [] z := Hp.start _ wf _ (by simp)
 refine Cw.enterS Tryz.func100 rfl rfl ?_
 refine Sm.seqW ?_
 conv => whnf
 refine Sm.live [0, 1, 2, 3] ?_
 conv => whnf
 refine Sm.seq ?_
 refine Sm.seqW ?_
 conv => whnf
 refine Sm.ofW ?_
 conv => whnf
 repeat ((first | refine Br.y1 ?_ | refine Br.n1 ?_); conv => whnf)
 refine Sm.seq ?_
 refine Sm.seqW ?_
 conv => whnf
 refine Om.of _ (sv_eq [c] []) ?_
 conv => whnf
 refine Sm.ofW ?_
 conv => whnf
 repeat ((first | refine Br.y1 ?_ | refine Br.n1 ?_); conv => whnf)
 refine Sm.seq ?_
 refine Sm.seqW ?_
 conv => whnf
 refine Sm.ofW ?_
 conv => whnf
 repeat ((first | refine Br.y1 ?_ | refine Br.n1 ?_); conv => whnf)
 refine (count_spec _ l c).mono ?_
 rintro _ s1 ⟨h1, rfl⟩
 obtain rfl := h1.symm
 conv => whnf
 have hcl := cntL_le c.toNat l
 obtain ⟨N, hN⟩ : ∃ N, cntL c.toNat l 0 = N := ⟨_, rfl⟩
 have hsl : (splitL c l).length = N + 1 := by rw [split_cnt, hN]
 rw [hN] at hcl ⊢
 have e1 : IntKind.i64.wrap ((N : Int) + 1) = ((N + 1 : Nat) : Int) := by rw [wi64 (by omega) (by omega)]; omega
 rw [e1]
 refine Sm.seqW ?_
 conv => whnf
 refine Sm.live [0, 1, 2, 3] ?_
 conv => whnf
 have e2 : IntKind.i64.wrap (((bs ⟨l.toArray⟩).length : Int) + 1) = ((l.length + 1 : Nat) : Int) := by
  show IntKind.i64.wrap ((l.length : Int) + 1) = _
  rw [wi64 (by omega) (by omega)]; omega
 refine Sm.seqW ?_
 conv => whnf
 rw [e2]
 have hlt : ¬ (((l.length + 1 : Nat) : Int) < ((N + 1 : Nat) : Int)) := by omega
 simp only [hlt, if_false]
 refine hp.mks SG rfl (N + 1) rfl rfl (by omega) ?_
 clear hp
 intro b s hp _
 conv => whnf
 refine Sm.live [0, 1, 2, 3, 9] ?_
 conv => whnf
 have e3 : IntKind.i64.wrap (((N + 1 : Nat) : Int) - 1) = (N : Int) := by rw [wi64 (by omega) (by omega)]; omega
 refine Sm.seqW ?_
 conv => whnf
 rw [e3]
 refine Sm.live [0, 1, 2, 3, 9] ?_
 conv => whnf
 refine Sm.seqW ?_
 conv => whnf
 refine Sm.live [0, 1, 2, 3, 9, 10] ?_
 conv => whnf
 refine Sm.seq ?_
 refine Sm.block ?_
 refine Sm.loop ?_
 refine Lp.ofS (α := List (List UInt8) × List UInt8) (fun x => [(0, sv x.2), (1, sv [c]), (2, .int .i64 0), (3, .int .i64 (N : Int)), (9, .slice (some ⟨b, 0, none⟩) (N + 1) (N + 1)), (10, .int .i64 (x.1.length : Int))])
  (fun x s' => splitL c l = x.1 ++ splitL c x.2 ∧ x.2.length ≤ l.length ∧ Hp (fun _ => False) z [] [blkA b b (x.1.map sv ++ List.replicate (N + 1 - x.1.length) (sv [])) 1] s') (fun x => N + 1 - x.1.length) ?_ ([], l) (subK_ok (by refine ⟨rfl, rfl, rfl, rfl, rfl, rfl, trivial⟩)) ⟨rfl, Nat.le_refl _, hp.pik (by repeat (first | exact Pik.nil | exact Pik.refl _ | exact Rm.here | apply Rm.there | apply Pik.cons | apply Pik.skip))⟩
 clear hp
 rintro ⟨done, r⟩ s ⟨hd, hr, hp⟩
 simp only at hd hr hp
 have hlen : N + 1 = done.length + (splitL c r).length := by rw [← hsl, hd, List.length_append]
 have hpos : 0 < (splitL c r).length := List.length_pos_iff.2 (splitL_ne c r)
 obtain ⟨m, hm⟩ : ∃ m, N + 1 - done.length = m + 1 := ⟨N - done.length, by omega⟩
 have hrep : List.replicate (N + 1 - done.length) (sv []) = sv [] :: List.replicate m (sv []) := by rw [hm, List.replicate_succ]
 have hput : ∀ w : List UInt8, (done.map sv ++ List.replicate (N + 1 - done.length) (sv [])).set done.length (sv w) = (done ++ [w]).map sv ++ List.replicate m (sv []) := fun w => by
  rw [hrep]; exact map_set_at sv done [] w _
 have hix := idx_at (P := Tryz.prog) SG (b := b) (off := 0) (c := N + 1) (n := N + 1) .i64 (show done.length < N + 1 by omega)
 rw [Nat.zero_add, Nat.mul_one] at hix
 refine Sm.seq ?_
 refine Sm.seqW ?_
 conv => whnf
 refine Sm.live [0, 1, 2, 3, 9, 10, 36] ?_
 conv => whnf
 refine Sm.ofW ?_
 conv => whnf
 refine Br.mk (fun hc => ?_) (fun hc => ?_)
 · have hc : done.length < N := by have : (done.length : Int) < (N : Int) := of_decide_eq_true hc; omega
   conv => whnf
   refine Sm.block ?_
   refine Sm.seqW ?_
   conv => whnf
   refine (sindex_spec _ r c).mono ?_
   rintro _ s1 ⟨h1, rfl⟩
   obtain rfl := h1.symm
   conv => whnf
   refine Sm.live [0, 1, 2, 3, 9, 10, 11] ?_
   conv => whnf
   refine Sm.seq ?_
   refine Sm.seqW ?_
   conv => whnf
   cases hi : idxL c.toNat r 0 with
   | none =>
     rw [split_none hi] at hlen
     simp only [List.length_singleton] at hlen
     omega
   | some i =>
     have hik : i < r.length := by
      obtain ⟨k, hk1, hk2, _⟩ := idxL_some hi
      omega
     have hs := split_some hi
     have e4 : IntKind.i64.wrap (ixI (some i) + 0) = (i : Int) := by show IntKind.i64.wrap ((i : Int) + 0) = _; rw [wi64 (by omega) (by omega)]; omega
     have e5 : IntKind.i64.wrap (ixI (some i) + ((bs ⟨#[c]⟩).length : Int)) = ((i + 1 : Nat) : Int) := by show IntKind.i64.wrap ((i : Int) + 1) = _; rw [wi64 (by omega) (by omega)]; omega
     have e6 : IntKind.i64.wrap ((done.length : Int) + 1) = (((done ++ [r.take i]).length : Nat) : Int) := by rw [wi64 (by omega) (by omega)]; simp
     refine Sm.ofW ?_
     conv => whnf
     refine Br.no (decide_eq_false (by show ¬ (i : Int) < 0; omega)) ?_
     conv => whnf
     refine Sm.seqW ?_
     conv => whnf
     rw [e4]
     refine Om.of _ (str_take Tryz.underlying9 (l := r) (j := i) .i64 (by omega)) ?_
     conv => whnf
     refine Om.of _ (hix) ?_
     conv => whnf
     refine hp.store .d (by simp; omega) rfl rfl rfl rfl ?_
     clear hp
     intro s hp _
     rw [hput] at hp
     conv => whnf
     refine Sm.live [0, 1, 2, 3, 9, 10, 11] ?_
     conv => whnf
     refine Sm.seqW ?_
     conv => whnf
     rw [e5]
     refine Om.of _ (str_drop Tryz.underlying9 (l := r) (j := i + 1) .i64 (by omega)) ?_
     conv => whnf
     refine Sm.live [0, 1, 2, 3, 9, 10] ?_
     conv => whnf
     refine Sm.ofW ?_
     conv => whnf
     exact ⟨(done ++ [r.take i], r.drop (i + 1)), by (show N + 1 - (done ++ [r.take i]).length < N + 1 - done.length); simp; omega, subK_ok (by refine ⟨rfl, rfl, rfl, rfl, rfl, congrArg (fun x => some (Value.int .i64 x)) e6, trivial⟩), by (rw [hd, hs]; simp), by (show (r.drop (i + 1)).length ≤ l.length); simp; omega, by
      have : N + 1 - (done ++ [r.take i]).length = m := by simp; omega
      rw [this]; exact hp.pik (by repeat (first | exact Pik.nil | exact Pik.refl _ | exact Rm.here | apply Rm.there | apply Pik.cons | apply Pik.skip))⟩
 · have hc : ¬ done.length < N := by have : ¬ (done.length : Int) < (N : Int) := of_decide_eq_false hc; omega
   have h1 : (splitL c r).length = 1 := by omega
   have hdn : done.length = N := by omega
   have hr1 : splitL c r = [r] := by
    cases hi : idxL c.toNat r 0 with
    | none => exact split_none hi
    | some i =>
      rw [split_some hi] at h1
      simp only [List.length_cons] at h1
      exact absurd (List.length_eq_zero_iff.1 (show (splitL c (r.drop (i + 1))).length = 0 by omega)) (splitL_ne _ _)
   obtain rfl : m = 0 := by omega
   have e6 : IntKind.i64.wrap ((done.length : Int) + 1) = ((N + 1 : Nat) : Int) := by rw [wi64 (by omega) (by omega)]; omega
   conv => whnf
   refine Sm.seqW ?_
   conv => whnf
   refine Om.of _ (hix) ?_
   conv => whnf
   refine hp.store .d (by simp; omega) rfl rfl rfl rfl ?_
   clear hp
   intro s hp _
   rw [hput] at hp
   have hlC : ((done ++ [r]).map sv ++ List.replicate 0 (sv [])) = (splitL c l).map sv := by rw [hd, hr1]; simp
   rw [hlC] at hp
   have hsub : Sl s (some b) (.slice (some ⟨b, 0, none⟩) (N + 1) (N + 1)) 1 (N + 1) ((splitL c l).map sv) := hp.blkSl .d (by rw [List.length_map, hsl]; omega)
   conv => whnf
   refine Sm.live [9, 10] ?_
   conv => whnf
   refine Sm.seqW ?_
   conv => whnf
   rw [e6]
   have hcut : evSliceMem Tryz.prog 95 (.slice (some ⟨b, 0, none⟩) (N + 1) (N + 1)) none (some (.int .i64 ((N + 1 : Nat) : Int))) none s = some (.slice (some ⟨b, 0, none⟩) (N + 1) (N + 1)) := by
    have hb : bnds (N + 1) (N + 1) none (some (.int .i64 ((N + 1 : Nat) : Int))) none = some (0, N + 1, N + 1) := by
     unfold bnds
     simp only [bnd_nat (Nat.le_refl (N + 1))]
    obtain ⟨i, hi1, hi2, hi3, hi4⟩ := SG.hi
    have hbk : Blk s b b ((splitL c l).map sv) 1 := hp.blk .d
    unfold evSliceMem
    rw [SG.hu]
    simp only [hi1, hbk.esz, hi2, Nat.beq_refl, hb]
    simp
   refine Om.of _ (hcut) ?_
   conv => whnf
   refine Sm.live [8] ?_
   conv => whnf
   refine Sm.ofW ?_
   conv => whnf
   refine ⟨hp.fr, ?_⟩
   have h9 := hp.blkO (n := N + 1) .d (by rw [List.length_map, hsl]; omega)
   rw [hsl]
   exact h9.out .d
theorem split_spec {z : St} (wf : WF z) (l : List UInt8) (hl : l.length ≤ 10000000000000) (c : UInt8) :
  Cw Tryz.prog 58 [sv l, sv [c]] z fun r s' => K0 z s' ∧ OwnN z.next s' r 1 (splitL c l).length ((splitL c l).map sv) := by
 refine Cw.enterS Tryz.func58 rfl rfl ?_
 refine Sm.seqW ?_
 conv => whnf
 refine Sm.seqW ?_
 conv => whnf
 refine (gsplit_spec wf l hl c).mono ?_
 rintro r s' ⟨h1, h2⟩
 obtain ⟨a, n, rfl⟩ := h2.shape
 conv => whnf
 refine Sm.ofW ?_
 conv => whnf
 exact ⟨h1, h2⟩
end

/- Buffers with room: what is written where there is room, and the text that comes of it. No condition. -/
section
variable [Lk]
section
variable {X : Nat → Prop} {s0 s s' : St} {R F G H : List At} {P : Program} {t : TypeId} {b off e : Nat} {C : List Value} {v : Value} {i : TypeInfo}
theorem Hp.appInT {K : Value × St → Prop} (h : Hp X s0 R F s) {et u by_ n c ty : Nat} {z : Value} (T : SlT P t et 1 by_ z) (hd : P.underlying u = some .string) (r : Rm (tyA b C 1 ty) F G) (x : List UInt8) (hc : n + x.length ≤ c) (hC : C.length = c)
  (hk : ∀ s', Hp X s0 R (tyA b (putAt C n (byteVals x)) 1 ty :: G) s' → K (.slice (some ⟨b, 0, none⟩) (n + x.length) c, s')) : Om (evAp P t u (.slice (some ⟨b, 0, none⟩) n c) (sv x) s) K := by
 obtain ⟨i, hi1, hi2, hi3, hi4⟩ := T.hi
 have hb : Bty s b C 1 ty := h.okF _ r.sub.1
 have hx : elemsOf s 1 (sv x) = some (x.length, byteVals x) := elems_str s _
 subst hi3
 by_cases hm : x = []
 · subst hm
   rw [show byteVals [] = [] from rfl, putAt_nil] at hk
   refine .of (.slice (some ⟨b, 0, none⟩) n c, s) ?_ (hk s (h.upd r (Y := fun _ => False) (.refl h.wf) (fun _ h => h.elim) hb fun j hj => .inl hj))
   simp only [List.length_nil] at hc
   simp only [evAp, evAppend, T.hu, hd, isIntDesc, hi1, hi4, T.hz, T.hzs, hi2, Nat.beq_refl, blt_of T.sz0, blt_of T.by0, hx, byteVals_one, List.length_nil, Nat.ble_eq_true_of_le (show n + 0 ≤ c by omega)]
 · have hm2 : x.length ≠ 0 := by simpa using hm
   obtain ⟨s', g1, g2, g3, g4⟩ := write_kp (off := n) (vs := byteVals x) h.wf hb.blk (by rw [byteVals_length]; omega)
   have g5 := write_blt hb.blt hb.blk g1
   refine .of (.slice (some ⟨b, 0, none⟩) (n + x.length) c, s') ?_ (hk s' (h.upd r g2 (fun j hj => .inl hj) ⟨g3, g5⟩ (fun j hj => .inl hj)))
   simp only [evAp, evAppend, T.hu, hd, isIntDesc, hi1, hi4, T.hz, T.hzs, hi2, Nat.beq_refl, blt_of T.sz0, blt_of T.by0, hx, byteVals_one, Nat.ble_eq_true_of_le hc, beq_no hm2, hb.blk.esz, Nat.zero_add, Nat.mul_one, g1]
end
theorem unsafe_strC {P : Program} {pt it e8 : TypeId} {i : TypeInfo} (hp : P.underlying pt = some (.pointer e8)) (hi : P.info? e8 = some i) (h1 : i.size = 1) {s : St} (wf : WF s) {k g : Nat} {C : List Value} {l : List UInt8} (hb : Blk s k g C 1) (ht : Blt s k C 1 e8) (hC : C.take l.length = byteVals l) (h0 : l ≠ []) (hl : l.length ≤ 9223372036854775807) :
  ∃ s', evUStr P [pt, it] (.pointer (some ⟨g, 0, none⟩)) (.int .i64 (l.length : Int)) s = some (.string ⟨l.toArray⟩, s') ∧ Kp (fun j => j = k) s s' := by
 obtain ⟨fl, g1, g2, g3, g4⟩ := ht.head hb
 obtain ⟨s', hs, hk, _⟩ := seal_kp wf hb
 refine ⟨s', ?_, hk⟩
 obtain ⟨m, hm⟩ : ∃ m, l.length = m + 1 := ⟨l.length - 1, by have : l.length ≠ 0 := by simpa using h0
                                                             omega⟩
 have hlen : l.length ≤ C.length := by
  have := congrArg List.length hC
  rw [List.length_take, byteVals_length] at this; omega
 have hsl : sl C 0 (m + 1) = some (byteVals l) := by
  unfold sl
  rw [← hm]
  have e : ((List.drop 0 C).take l.length) = byteVals l := hC
  simp only [e]
  rw [byteVals_length, Nat.beq_refl]
 show (match P.underlying pt, Value.pointer (some ⟨g, 0, none⟩), Value.int .i64 (.ofNat l.length) with
  | some (.pointer _), .pointer none, .int .i64 (.ofNat 0) => some (Value.string ⟨#[]⟩, s)
  | some (.pointer _), .pointer (some _), .int .i64 (.ofNat 0) => some (Value.string ⟨#[]⟩, s)
  | some (.pointer e), .pointer (some a), .int .i64 (.ofNat (m + 1)) => match P.info? e, s.heap.get a.block, s.tys.get a.block, s.rd a.block, s.sealB a.block with
    | some i, some (.cells _ _ 0 _ true), some (t + 1), some cs, some s' => match Nat.beq i.size 1, Nat.beq t e, Nat.beq a.off 0, Nat.ble (m + 1) 9223372036854775807, sl cs 0 (m + 1) with
      | true, true, true, true, some l => match bytesOk l, valBytes l with
        | true, some b => some (Value.string ⟨b.toArray⟩, s')
        | _, _ => none
      | _, _, _, _, _ => none
    | _, _, _, _, _ => none
  | _, _, _ => none) = _
 rw [hp, hm]
 simp only [hi, g1, g4, hb.rd, hs, h1, Nat.beq_refl, Nat.ble_eq_true_of_le (show m + 1 ≤ 9223372036854775807 by omega), hsl, bytesOk_vals, valBytes_byteVals]
section
variable {X : Nat → Prop} {s0 s s' : St} {R F G H : List At} {p b n c : Nat} {a : Option Addr} {C : List Value}
theorem writeC_spec (hp : Hp X s0 R F s) (ha : a = none ∨ a = some ⟨p, 0, none⟩) (h1 : Rm (tyA p [.pointer a, .slice (some ⟨b, 0, none⟩) n c] 2 158) F G) (h2 : Rm (tyA b C 1 5) G H) (t : List UInt8) (hfit : n + t.length ≤ c) (hC : C.length = c) {K : Value → St → Prop}
  (hK : ∀ s', Hp X s0 R (tyA p [.pointer (some ⟨p, 0, none⟩), .slice (some ⟨b, 0, none⟩) (n + t.length) c] 2 158 :: tyA b (putAt C n (byteVals t)) 1 5 :: H) s' → K (.tuple #[.int .i64 (t.length : Int), .nilIface]) s') :
  Cw Tryz.prog 109 [.pointer (some ⟨p, 0, none⟩), sv t] s K := by
 refine Cw.enterS Tryz.func109 rfl rfl ?_
 refine Sm.seqW ?_
 conv => whnf
 refine Sm.live [0, 1] ?_
 conv => whnf
 refine Sm.seqW ?_
 conv => whnf
 refine hp.callU (a' := tyA p [.pointer (some ⟨p, 0, none⟩), .slice (some ⟨b, 0, none⟩) n c] 2 158) h1 (fun j hj => .inl hj) (fun j hj => .inl hj) (copyCheck_spec hp.wf (hp.okF _ h1.sub.1) ha) ?_
 clear hp
 intro r s _ hp
 conv => whnf
 refine Sm.live [0, 1] ?_
 conv => whnf
 refine Sm.seqW ?_
 conv => whnf
 (refine hp.loadT .d (v := .slice (some ⟨b, 0, none⟩) n c) (by rfl) rfl rfl rfl ?_; conv => whnf)
 refine hp.appInT UB Tryz.underlying9 (Rm.there h2) t hfit hC ?_
 clear hp
 intro s hp
 conv => whnf
 refine hp.storeT (Rm.there Rm.here) (by show 1 < 2; decide) rfl rfl rfl rfl ?_
 clear hp
 intro s hp _
 conv => whnf
 refine Sm.live [0, 1] ?_
 conv => whnf
 refine Sm.seqW ?_
 conv => whnf
 refine Sm.ofW ?_
 conv => whnf
 exact ⟨hK _ (hp.pik (.cons .here (.refl _)))⟩
theorem Hp.mnz (h : Hp X s0 R F s) (n : Nat) (hn : n ≤ 140737488351232) {K : Value → St → Prop} (k : ∀ b s', Hp X s0 R (tyA b (List.replicate n (.chan none)) 1 5 :: F) s' → K0 s s' → K (.slice (some ⟨b, 0, none⟩) n n) s') :
  Cw Tryz.prog 155 [.int .i64 (n : Int)] s K := by
 obtain ⟨g1, g2⟩ := new_kp h.wf (List.replicate n (.chan none)) 1 (ty := 5 + 1)
 refine ⟨⟨_, _, k _ _ (h.push g1 ⟨g2, new_blt _ _ _ _⟩ fun j hj => by subst hj; exact Nat.le_refl _) g1, .inr (.inr ⟨Tryz.f155, Tryz.func155, rfl, ?_, ?_⟩)⟩⟩
 · unfold evExt
   rfl
 · show (match Tryz.prog.underlying 59 with
    | some (.slice e) => match Nat.ble n 140737488351232 with
      | true => some (Value.slice (some ⟨s.next, 0, none⟩) n n, s.new (List.replicate n (.chan none)) 1 (e + 1))
      | false => none
    | _ => none) = _
   rw [Tryz.underlying59]
   simp only [Nat.ble_eq_true_of_le hn]
theorem growB_spec (hp : Hp X s0 R F s) (h1 : Rm (tyA p [.pointer (some ⟨p, 0, none⟩), .slice none 0 0] 2 158) F G) (n : Nat) (h0 : 0 < n) (hn : n ≤ 100000000) {K : Value → St → Prop}
  (hK : ∀ v b s', Hp X s0 R (tyA p [.pointer (some ⟨p, 0, none⟩), .slice (some ⟨b, 0, none⟩) 0 n] 2 158 :: tyA b (List.replicate n (.chan none)) 1 5 :: G) s' → K v s') :
  Cw Tryz.prog 136 [.pointer (some ⟨p, 0, none⟩), .int .i64 (n : Int)] s K := by
 replace hp : Hp X s0 R (tyA p [.pointer (some ⟨p, 0, none⟩), .slice none 0 0] 2 158 :: G) s := hp.pik (.cons h1 (.refl _))
 clear h1
 have e1 : IntKind.i64.wrap (IntKind.i64.wrap (2 * 0) + (n : Int)) = (n : Int) := by rw [wi64 (n := 2 * 0) (by decide) (by decide), wi64 (by omega) (by omega)]; omega
 refine Cw.enterS Tryz.func136 rfl rfl ?_
 refine Sm.seqW ?_
 conv => whnf
 refine ⟨[0, 1, 3, 7, 15, 31, 0, 127, 255, 0, 512, 1536, 3584, 7680, 16383, 32767], by decide +kernel, by decide +kernel, ?_⟩
 conv => whnf
 (refine hp.loadT (C := [.pointer (some ⟨p, 0, none⟩), .slice none 0 0]) (b := p) (e := 2) (ty := 158) .here (v := .slice none 0 0) (by rfl) rfl rfl rfl ?_; conv => whnf)
 refine Om.of (.int .i64 0) rfl ?_
 conv => whnf
 refine hp.dkS ?_
 conv => whnf
 rw [e1]
 refine hp.rst.mnz n (by omega) ?_
 intro b s1 h1 k1
 conv => whnf
 refine hp.dkN h1 k1 ?_
 clear hp h1 k1
 intro s hp
 conv => whnf
 (refine hp.loadT (C := [.pointer (some ⟨p, 0, none⟩), .slice none 0 0]) (b := p) (e := 2) (ty := 158) (.there .here) (v := .slice none 0 0) (by rfl) rfl rfl rfl ?_; conv => whnf)
 have hcut : evSliceMem Tryz.prog 59 (.slice (some ⟨b, 0, none⟩) n n) none (some (.int .i64 ((0 : Nat) : Int))) none s = some (.slice (some ⟨b, 0, none⟩) 0 n) := by
  have hb : bnds n n none (some (.int .i64 ((0 : Nat) : Int))) none = some (0, 0, n) := by
   unfold bnds
   simp only [bnd_nat (Nat.zero_le n)]
  obtain ⟨i, hi1, hi2, hi3, hi4⟩ := UB.hi
  have hbk : Bty s b (List.replicate n (.chan none)) 1 5 := hp.okF _ (List.mem_cons_self ..)
  unfold evSliceMem
  rw [UB.hu]
  simp only [hi1, hbk.blk.esz, hi2, Nat.beq_refl, hb]
  simp
 refine Om.of _ (hcut) ?_
 conv => whnf
 refine Sm.live [0, 4] ?_
 conv => whnf
 refine Sm.seqW ?_
 conv => whnf
 (refine hp.loadT (C := [.pointer (some ⟨p, 0, none⟩), .slice none 0 0]) (b := p) (e := 2) (ty := 158) (.there .here) (v := .slice none 0 0) (by rfl) rfl rfl rfl ?_; conv => whnf)
 refine Om.of (.int .i64 0, s) (by rfl) ?_
 conv => whnf
 refine Sm.live [0, 4] ?_
 conv => whnf
 refine Sm.ofW ?_
 conv => whnf
 refine hp.storeT (.there .here) (by show 1 < 2; decide) rfl rfl rfl rfl ?_
 clear hp
 intro s hp _
 conv => whnf
 exact ⟨hK _ _ _ hp⟩
theorem growC_spec (hp : Hp X s0 R F s) (h1 : Rm (tyA p [.pointer none, .slice none 0 0] 2 158) F G) (n : Nat) (h0 : 0 < n) (hn : n ≤ 100000000) {K : Value → St → Prop}
  (hK : ∀ v b s', Hp X s0 R (tyA p [.pointer (some ⟨p, 0, none⟩), .slice (some ⟨b, 0, none⟩) 0 n] 2 158 :: tyA b (List.replicate n (.chan none)) 1 5 :: G) s' → K v s') :
  Cw Tryz.prog 108 [.pointer (some ⟨p, 0, none⟩), .int .i64 (n : Int)] s K := by
 refine Cw.enterS Tryz.func108 rfl rfl ?_
 refine Sm.seqW ?_
 conv => whnf
 refine hp.callU (a' := tyA p [.pointer (some ⟨p, 0, none⟩), .slice none 0 0] 2 158) h1 (fun j hj => .inl hj) (fun j hj => .inl hj) (copyCheck_spec hp.wf (hp.okF _ h1.sub.1) (.inl rfl)) ?_
 clear hp h1
 intro r s _ hp
 conv => whnf
 refine Sm.live [0, 1] ?_
 conv => whnf
 refine Sm.seq ?_
 refine Sm.seqW ?_
 conv => whnf
 refine Sm.ofW ?_
 conv => whnf
 refine Br.no (decide_eq_false (by omega)) ?_
 conv => whnf
 refine Sm.seqW ?_
 conv => whnf
 refine ⟨[0, 1, 3, 7, 15, 0, 32, 96, 224, 480, 1023, 0, 4095], by decide +kernel, by decide +kernel, ?_⟩
 conv => whnf
 (refine hp.loadT (C := [.pointer (some ⟨p, 0, none⟩), .slice none 0 0]) (b := p) (e := 2) (ty := 158) .here (v := .slice none 0 0) (by rfl) rfl rfl rfl ?_; conv => whnf)
 refine Om.of (.int .i64 0) rfl ?_
 conv => whnf
 refine hp.dkS ?_
 conv => whnf
 (refine hp.loadT (C := [.pointer (some ⟨p, 0, none⟩), .slice none 0 0]) (b := p) (e := 2) (ty := 158) .here (v := .slice none 0 0) (by rfl) rfl rfl rfl ?_; conv => whnf)
 refine Sm.live [0, 1, 21] ?_
 conv => whnf
 refine Sm.ofW ?_
 conv => whnf
 refine Br.yes (decide_eq_true (by show IntKind.i64.wrap (0 - 0) < (n : Int); rw [show IntKind.i64.wrap (0 - 0) = 0 by decide]; omega)) ?_
 conv => whnf
 refine growB_spec hp .here n h0 hn ?_
 clear hp
 intro v b s hp
 conv => whnf
 exact ⟨hK _ _ _ hp⟩
end
end

/- strings.Join with a byte between, walked; TrimPrefix. No condition. -/
section
variable [Lk]
theorem index_sv {s : St} {κ : Option Nat} {v : Value} {L : List (List UInt8)} (h : Sl s κ v 1 L.length (L.map sv)) (k : IntKind) {i : Nat} (hi : i < L.length) :
  ∃ a, evIndexAddr Tryz.prog 95 v (.int k (i : Int)) = some (.pointer (some a)) ∧ evLoad Tryz.prog 9 (.pointer (some a)) s = some (sv L[i]) := by
 obtain ⟨p, y, e1, e2, e3, a, rfl⟩ := index_sl SG Tryz.underlying9 rfl h k hi
 rw [List.getElem?_map, List.getElem?_eq_getElem hi] at e2
 injection e2 with e2
 subst e2
 exact ⟨a, e1, e3⟩
theorem joinL_len (c : UInt8) : ∀ L : List (List UInt8), L ≠ [] → (joinL c L).length = (L.map List.length).sum + (L.length - 1)
 | [], h => absurd rfl h
 | x :: r, _ => by
   have : ∀ r : List (List UInt8), (r.flatMap fun w => c :: w).length = (r.map List.length).sum + r.length := by
    intro r
    induction r with
    | nil => rfl
    | cons y r ih => simp only [List.flatMap_cons, List.length_append, List.length_cons, ih, List.map_cons, List.sum_cons]; omega
   simp only [joinL, List.length_append, this, List.map_cons, List.sum_cons, List.length_cons]
   omega
theorem sum_take_le : ∀ (L : List Nat) (i : Nat), (L.take i).sum ≤ L.sum
 | [], i => by simp
 | x :: r, 0 => by simp
 | x :: r, i + 1 => by have := sum_take_le r i; simp only [List.take_succ_cons, List.sum_cons]; omega
theorem put_take {C : List Value} {l t : List UInt8} (hC : C.take l.length = byteVals l) (h : l.length + t.length ≤ C.length) : (putAt C l.length (byteVals t)).take (l ++ t).length = byteVals (l ++ t) ∧ (putAt C l.length (byteVals t)).length = C.length := by
 unfold putAt
 rw [hC, byteVals_length]
 refine ⟨?_, ?_⟩
 · rw [byteVals_append]
   exact List.take_left' (by rw [List.length_append, byteVals_length, byteVals_length, List.length_append])
 · simp only [List.length_append, byteVals_length, List.length_drop]; omega
section
variable {X : Nat → Prop} {s0 s s' : St} {R F G H : List At} {p b c : Nat} {a : Option Addr} {C : List Value}
theorem stringC_spec (hp : Hp X s0 R F s) {l : List UInt8} (h1 : Rm (tyA p [.pointer a, .slice (some ⟨b, 0, none⟩) l.length c] 2 158) F G) (h2 : Rm (tyA b C 1 5) G H) (hC : C.take l.length = byteVals l) (h0 : l ≠ []) (hl : l.length ≤ 100000000) (hlc : l.length ≤ c) {K : Value → St → Prop}
  (hK : ∀ s', Hp X s0 R H s' → K (sv l) s') :
  Cw Tryz.prog 110 [.pointer (some ⟨p, 0, none⟩)] s K := by
 replace hp : Hp X s0 R (tyA p [.pointer a, .slice (some ⟨b, 0, none⟩) l.length c] 2 158 :: tyA b C 1 5 :: H) s := hp.pik (.cons h1 (.cons h2 (.refl _)))
 clear h1 h2
 refine Cw.enterS Tryz.func110 rfl rfl ?_
 refine Sm.seqW ?_
 conv => whnf
 refine Sm.live [0] ?_
 conv => whnf
 refine Sm.seqW ?_
 conv => whnf
 refine ⟨[0, 1, 3, 7, 15, 0, 32, 96, 224, 480, 1023, 2047], by decide +kernel, by decide +kernel, ?_⟩
 conv => whnf
 (refine hp.loadT (C := [.pointer a, .slice (some ⟨b, 0, none⟩) l.length c]) (b := p) (e := 2) (ty := 158) .here (v := .slice (some ⟨b, 0, none⟩) l.length c) (by rfl) rfl rfl rfl ?_; conv => whnf)
 obtain ⟨m, hm⟩ : ∃ m, l.length = m + 1 := ⟨l.length - 1, by have := List.length_pos_iff.2 h0; omega⟩
 obtain ⟨m2, hm2⟩ : ∃ m2, c = m2 + 1 := ⟨c - 1, by omega⟩
 refine Om.of (.pointer (some ⟨b, 0, none⟩)) (by rw [hm, hm2]; rfl) ?_
 conv => whnf
 refine hp.dkS ?_
 conv => whnf
 (refine hp.loadT (C := [.pointer a, .slice (some ⟨b, 0, none⟩) l.length c]) (b := p) (e := 2) (ty := 158) .here (v := .slice (some ⟨b, 0, none⟩) l.length c) (by rfl) rfl rfl rfl ?_; conv => whnf)
 have hB : Bty s b C 1 5 := hp.okF (tyA b C 1 5) (by simp)
 obtain ⟨s', u1, u2⟩ := unsafe_strC (it := 3) Tryz.underlying189 (i := _) (rfl : Tryz.prog.info? 5 = some _) rfl hp.rst.wf hB.blk.reset hB.blt.reset hC h0 (by omega)
 refine Om.of _ u1 ?_
 conv => whnf
 have h9 := hp.rst.upd (a := tyA b C 1 5) (a' := bufA none (.slice none 0 0) [] 5) (.there .here) u2 (fun j hj => .inl hj) ⟨.inl ⟨rfl, rfl, rfl⟩⟩ (fun j hj => by cases hj)
 refine hp.dkA h9 ?_ ?_
 · intro s2 hp
   conv => whnf
   refine Sm.live [2] ?_
   conv => whnf
   refine Sm.ofW ?_
   conv => whnf
   exact ⟨hK _ (hp.pik (.skip (.skip (.refl _))))⟩
 · intro s2 hp
   conv => whnf
   refine Sm.live [2] ?_
   conv => whnf
   refine Sm.ofW ?_
   conv => whnf
   exact ⟨hK _ (hp.pik (.skip (.skip (.refl _))))⟩
end
theorem flat_le (c : UInt8) : ∀ (T : List (List UInt8)) (i : Nat), ((T.take i).flatMap fun w => c :: w).length ≤ (T.flatMap fun w => c :: w).length
 | [], i => by simp
 | x :: r, 0 => by simp
 | x :: r, i + 1 => by
   have := flat_le c r i
   simp only [List.take_succ_cons, List.flatMap_cons, List.length_append]; omega
theorem drop_sv {s : St} {κ : Option Nat} {v : Value} {L : List (List UInt8)} (h : Sl s κ v 1 L.length (L.map sv)) {i : Nat} (hi : i ≤ L.length) :
  ∃ v', evSliceMem Tryz.prog 95 v (some (.int .i64 (i : Int))) none none s = some v' ∧ Sl s κ v' 1 (L.drop i).length ((L.drop i).map sv) := by
 obtain ⟨v', e, h'⟩ := slice_sl SG h .i64 .i64 (some i) none (by simpa using hi) (by simp)
 refine ⟨v', e, ?_⟩
 simp only [Option.getD_some, Option.getD_none, Nat.mul_one] at h'
 rw [← List.map_drop, List.take_of_length_le (by simp)] at h'
 rw [List.length_drop]
 exact h'
theorem sjoin_spec {z : St} (wf : WF z) {κ : Option Nat} {v : Value} {L : List (List UInt8)} (hv : Sl z κ v 1 L.length (L.map sv)) (c : UInt8) (hb : (joinL c L).length ≤ 100000000) :
  Cw Tryz.prog 63 [v, sv [c]] z fun r s' => K0 z s' ∧ r = sv (joinL c L) := by
 obtain ⟨a, cp, rfl⟩ := hv.shape
 have hp : Hp (fun _ => False) z [slA κ (.slice a L.length cp) 1 L.length (L.map sv)] [] z := Hp.start _ wf _ (by simp; exact hv)
 refine Cw.enterS Tryz.func63 rfl rfl ?_
 refine Sm.seqW ?_
 conv => whnf
 refine Sm.live [0, 1] ?_
 conv => whnf
 refine Sm.seq ?_
 refine Sm.ofW ?_
 conv => whnf
 by_cases h0 : L = []
 · have q : (((L.length : Nat) : Int) == 0) = true := by rw [h0]; rfl
   repeat (first | (refine Br.yes q ?_; conv => whnf) | ((first | refine Br.y1 ?_ | refine Br.n1 ?_); conv => whnf))
   exact ⟨hp.fr, by rw [h0]; rfl⟩
 have hl0 : 0 < L.length := List.length_pos_iff.2 h0
 have q : (((L.length : Nat) : Int) == 0) = false := beq_eq_false_iff_ne.2 (by omega)
 by_cases h1 : L.length = 1
 · obtain ⟨w, rfl⟩ := List.length_eq_one_iff.1 h1
   repeat (first | (refine Br.no q ?_; conv => whnf) | ((first | refine Br.y1 ?_ | refine Br.n1 ?_); conv => whnf))
   obtain ⟨e, g1, g2⟩ := index_sv (hp.slR (κ := κ) (v := .slice a 1 cp) (cs := [sv w]) .here) .i64 (i := 0) (L := [w]) (by simp)
   refine Om.of _ (g1) ?_
   conv => whnf
   refine Om.of _ (g2) ?_
   conv => whnf
   exact ⟨hp.fr, by (show sv w = sv (w ++ []); rw [List.append_nil])⟩
 have q1 : (((L.length : Nat) : Int) == 1) = false := beq_eq_false_iff_ne.2 (by omega)
 repeat (first | (refine Br.no q ?_; conv => whnf) | (refine Br.no q1 ?_; conv => whnf) | ((first | refine Br.y1 ?_ | refine Br.n1 ?_); conv => whnf))
 have hjl := joinL_len c L h0
 obtain ⟨m, hm⟩ : ∃ m, L.length = m + 1 := ⟨L.length - 1, by omega⟩
 have hm1 : 0 < m := by omega
 have e1 : IntKind.i64.wrap ((L.length : Int) - 1) = (m : Int) := by rw [wi64 (by omega) (by omega)]; omega
 have hsum : (L.map List.length).sum + m = (joinL c L).length := by rw [hjl, hm]; omega
 refine Sm.seqW ?_
 conv => whnf
 refine Sm.live [0, 1, 5] ?_
 conv => whnf
 refine Sm.seq ?_
 refine Sm.seqW ?_
 conv => whnf
 refine Sm.ofW ?_
 conv => whnf
 repeat ((first | refine Br.y1 ?_ | refine Br.n1 ?_); conv => whnf)
 refine Om.of (.int .i64 ((9223372036854775807 / m : Nat) : Int)) (by rw [e1]; exact quo_nat hm1 (by decide)) ?_
 conv => whnf
 have hq : ¬ (1 : Int) ≥ ((9223372036854775807 / m : Nat) : Int) := by
  have : 2 ≤ 9223372036854775807 / m := (Nat.le_div_iff_mul_le hm1).2 (by omega)
  omega
 refine Br.no (decide_eq_false hq) ?_
 conv => whnf
 have e2 : IntKind.i64.wrap (0 + IntKind.i64.wrap ((1 : Int) * IntKind.i64.wrap ((L.length : Int) - 1))) = (m : Int) := by
  rw [e1, wi64 (n := (1 : Int) * (m : Int)) (by omega) (by omega), wi64 (by omega) (by omega)]; omega
 have e2' : IntKind.i64.wrap (0 + IntKind.i64.wrap (((bs ⟨#[c]⟩).length : Int) * IntKind.i64.wrap ((L.length : Int) - 1))) = (m : Int) := e2
 rw [e2']
 refine Sm.live [0, 1, 5] ?_
 conv => whnf
 refine Sm.seq ?_
 refine Sm.seqW ?_
 conv => whnf
 refine Sm.live [0, 1, 5, 39, 40, 41] ?_
 conv => whnf
 refine Sm.block ?_
 refine Sm.loop ?_
 refine Lp.ofS (α := Nat) (fun i => [(0, .slice a L.length cp), (1, sv [c]), (5, .int .i64 ((m + ((L.map List.length).take i).sum : Nat) : Int)), (39, .slice a L.length cp), (40, .int .i64 ((L.length : Nat) : Int)), (41, .int .i64 (i : Int))])
  (fun i s' => i ≤ L.length ∧ s' = z) (fun i => L.length - i) ?_ 0 (subK_ok (by refine ⟨rfl, rfl, rfl, rfl, rfl, rfl, trivial⟩)) ⟨Nat.zero_le _, rfl⟩
 rintro i s ⟨hi, rfl⟩
 have hti := sum_take_le (L.map List.length) i
 refine Sm.seqW ?_
 conv => whnf
 refine Sm.live [0, 1, 5, 39, 40, 41, 42] ?_
 conv => whnf
 refine Sm.seq ?_
 refine Sm.ofW ?_
 conv => whnf
 refine Br.mk (fun hc => ?_) (fun hc => ?_)
 · have hc : i < L.length := by have : (i : Int) < ((L.length : Nat) : Int) := of_decide_eq_true hc; omega
   obtain ⟨e, g1, g2⟩ := index_sv (hp.slR (κ := κ) (v := .slice a L.length cp) .here) .i64 hc
   have hts := sum_take_le (L.map List.length) (i + 1)
   have e3 : ((L.map List.length).take (i + 1)).sum = ((L.map List.length).take i).sum + L[i].length := by
    rw [List.take_succ_eq_append_getElem (by rw [List.length_map]; exact hc), List.sum_append, List.getElem_map]; simp
   generalize hw : L[i] = w at *
   conv => whnf
   refine Sm.seq ?_
   refine Sm.block ?_
   refine Sm.seqW ?_
   conv => whnf
   refine Om.of _ (g1) ?_
   conv => whnf
   refine Om.of _ (g2) ?_
   conv => whnf
   refine Sm.live [0, 1, 5, 7, 39, 40, 41] ?_
   conv => whnf
   refine Sm.seq ?_
   refine Sm.seqW ?_
   conv => whnf
   refine Sm.ofW ?_
   conv => whnf
   refine Br.no (decide_eq_false (by
    show ¬ ((w.length : Int) > IntKind.i64.wrap (9223372036854775807 - ((m + ((L.map List.length).take i).sum : Nat) : Int)))
    rw [wi64 (by omega) (by omega)]; omega)) ?_
   conv => whnf
   refine Sm.ofW ?_
   conv => whnf
   refine Sm.ofW ?_
   conv => whnf
   exact ⟨i + 1, by (show L.length - (i + 1) < L.length - i); omega, subK_ok (by refine ⟨rfl, rfl, congrArg (fun x => some (Value.int .i64 x)) (show IntKind.i64.wrap (((m + ((L.map List.length).take i).sum : Nat) : Int) + ((w.length : Nat) : Int)) = ((m + ((L.map List.length).take (i + 1)).sum : Nat) : Int) by rw [wi64 (by omega) (by omega)]; omega), rfl, rfl, congrArg (fun x => some (Value.int .i64 x)) (show IntKind.i64.wrap ((i : Int) + 1) = ((i + 1 : Nat) : Int) by rw [wi64 (by omega) (by omega)]; omega), trivial⟩), by omega, rfl⟩
 · have hc : i = L.length := by have : ¬ (i : Int) < ((L.length : Nat) : Int) := of_decide_eq_false hc; omega
   subst hc
   rw [List.take_of_length_le (by rw [List.length_map]; exact Nat.le_refl _)]
   have hN : m + (L.map List.length).sum = (joinL c L).length := by omega
   rw [hN]
   obtain ⟨N, hN2⟩ : ∃ N, N = (joinL c L).length := ⟨_, rfl⟩
   rw [← hN2]
   conv => whnf
   refine Sm.seqW ?_
   conv => whnf
   refine hp.allocT (cs := [.pointer none, .slice none 0 0]) (e := 2) rfl rfl rfl rfl rfl ?_
   clear hp
   intro pb s1 hp _
   conv => whnf
   refine Sm.live [0, 1, 5, 8] ?_
   conv => whnf
   refine Sm.seqW ?_
   conv => whnf
   refine growC_spec hp .here N (by omega) (by omega) ?_
   clear hp
   intro vg b s2 hp
   conv => whnf
   refine Sm.live [0, 1, 8] ?_
   conv => whnf
   refine Sm.seqW ?_
   conv => whnf
   obtain ⟨x, T, rfl⟩ := List.exists_cons_of_ne_nil h0
   have hTm : T.length = m := by simpa using hm
   have hNT : N = x.length + (T.flatMap fun w => c :: w).length := by rw [hN2]; show (x ++ _).length = _; rw [List.length_append]
   obtain ⟨e0, g1, g2⟩ := index_sv (hp.slR (κ := κ) (v := .slice a (x :: T).length cp) .here) .i64 (i := 0) hl0
   refine Om.of _ (g1) ?_
   conv => whnf
   refine Om.of _ (g2) ?_
   conv => whnf
   refine writeC_spec hp (.inr rfl) .here .here x (by omega) (by simp) ?_
   clear hp
   intro s3 hp
   have hC0 := put_take (C := List.replicate N (.chan none)) (l := []) (t := x) rfl (by simp; omega)
   rw [List.nil_append] at hC0
   generalize hCd : putAt (List.replicate N (Value.chan none)) ([] : List UInt8).length (byteVals x) = C0 at hC0
   have hp : Hp (fun _ => False) s [slA κ (.slice a (x :: T).length cp) 1 (x :: T).length ((x :: T).map sv)] [tyA pb [.pointer (some ⟨pb, 0, none⟩), .slice (some ⟨b, 0, none⟩) x.length N] 2 158, tyA b C0 1 5] s3 := by
    rw [← hCd]
    have : 0 + x.length = x.length := Nat.zero_add _
    rw [this] at hp
    exact hp
   rw [List.length_replicate] at hC0
   conv => whnf
   refine Sm.live [0, 1, 8] ?_
   conv => whnf
   refine Sm.seq ?_
   refine Sm.seqW ?_
   conv => whnf
   obtain ⟨v', g3, g4⟩ := drop_sv (hp.slR (κ := κ) (v := .slice a (x :: T).length cp) .here) (i := 1) (by simp)
   refine Om.of _ (g3) ?_
   conv => whnf
   have g4 : Sl s3 κ v' 1 T.length (T.map sv) := g4
   obtain ⟨a', cp', rfl⟩ := g4.shape
   replace hp := hp.view .here (a' := slA κ (.slice a' T.length cp') 1 T.length (T.map sv)) g4 (fun j hj => hj)
   clear g3 g4
   conv => whnf
   refine Sm.live [1, 8, 63, 64, 65] ?_
   conv => whnf
   refine Sm.block ?_
   refine Sm.loop ?_
   refine Lp.ofS (α := Nat) (fun i => [(1, sv [c]), (8, .pointer (some ⟨pb, 0, none⟩)), (63, .slice a' T.length cp'), (64, .int .i64 ((T.length : Nat) : Int)), (65, .int .i64 (i : Int))])
    (fun i s' => i ≤ T.length ∧ ∃ C l, l = x ++ (T.take i).flatMap (fun w => c :: w) ∧ C.take l.length = byteVals l ∧ C.length = N ∧ Hp (fun _ => False) s [slA κ (.slice a' T.length cp') 1 T.length (T.map sv)] [tyA pb [.pointer (some ⟨pb, 0, none⟩), .slice (some ⟨b, 0, none⟩) l.length N] 2 158, tyA b C 1 5] s') (fun i => T.length - i) ?_ 0 (subK_ok (by refine ⟨rfl, rfl, rfl, rfl, rfl, trivial⟩)) ⟨Nat.zero_le _, C0, x, by simp, hC0.1, hC0.2, hp.pikR (by repeat (first | exact Pik.nil | exact Pik.refl _ | exact Rm.here | apply Rm.there | apply Pik.cons | apply Pik.skip))⟩
   clear hp hC0
   rintro i s4 ⟨hi, C, l, hl, hC1, hC2, hp⟩
   refine Sm.seqW ?_
   conv => whnf
   refine Sm.live [1, 8, 63, 64, 65, 66] ?_
   conv => whnf
   refine Sm.seq ?_
   refine Sm.ofW ?_
   conv => whnf
   refine Br.mk (fun hc => ?_) (fun hc => ?_)
   · have hc : i < T.length := by have : (i : Int) < ((T.length : Nat) : Int) := of_decide_eq_true hc; omega
     obtain ⟨e, g1, g2⟩ := index_sv (hp.slR (κ := κ) (v := .slice a' T.length cp') .here) .i64 hc
     have hfl := flat_le c T (i + 1)
     have e3 : (T.take (i + 1)).flatMap (fun w => c :: w) = (T.take i).flatMap (fun w => c :: w) ++ c :: T[i] := by
      rw [List.take_succ_eq_append_getElem hc, List.flatMap_append]; simp
     have hll : l.length + 1 + T[i].length ≤ N := by
      have := congrArg List.length e3
      rw [hl]
      simp only [List.length_append, List.length_cons] at this ⊢
      omega
     have hl2 : x ++ (T.take (i + 1)).flatMap (fun w => c :: w) = l ++ [c] ++ T[i] := by rw [e3, hl]; simp
     generalize hw : T[i] = w at *
     conv => whnf
     refine Sm.seq ?_
     refine Sm.block ?_
     refine Sm.seqW ?_
     conv => whnf
     refine Om.of _ (g1) ?_
     conv => whnf
     refine Om.of _ (g2) ?_
     conv => whnf
     refine Sm.live [1, 8, 10, 63, 64, 65] ?_
     conv => whnf
     refine Sm.seqW ?_
     conv => whnf
     refine writeC_spec hp (.inr rfl) .here .here [c] (by simp; omega) hC2 ?_
     clear hp
     intro s5 hp
     obtain ⟨k1, k2⟩ := put_take (t := [c]) hC1 (by simp; omega)
     generalize putAt C l.length (byteVals [c]) = C' at *
     rw [show l.length + [c].length = (l ++ [c]).length by simp] at hp
     conv => whnf
     refine Sm.live [1, 8, 10, 63, 64, 65] ?_
     conv => whnf
     refine Sm.ofW ?_
     conv => whnf
     refine writeC_spec hp (.inr rfl) .here .here w (by simp; omega) (by rw [k2, hC2]) ?_
     clear hp
     intro s6 hp
     obtain ⟨k3, k4⟩ := put_take (t := w) k1 (by simp; omega)
     generalize putAt C' (l ++ [c]).length (byteVals w) = C'' at *
     rw [show (l ++ [c]).length + w.length = (l ++ [c] ++ w).length by simp; omega] at hp
     conv => whnf
     refine Sm.ofW ?_
     conv => whnf
     exact ⟨i + 1, by (show T.length - (i + 1) < T.length - i); omega, subK_ok (by refine ⟨rfl, rfl, rfl, rfl, congrArg (fun x => some (Value.int .i64 x)) (show IntKind.i64.wrap ((i : Int) + 1) = ((i + 1 : Nat) : Int) by rw [wi64 (by omega) (by omega)]; omega), trivial⟩), by omega, C'', l ++ [c] ++ w, hl2.symm, k3, by omega, hp⟩
   · have hc : i = T.length := by have : ¬ (i : Int) < ((T.length : Nat) : Int) := of_decide_eq_false hc; omega
     subst hc
     rw [List.take_length] at hl
     have hl : l = joinL c (x :: T) := hl
     have hTne : T ≠ [] := fun e => by rw [e] at hm; simp at hm; omega
     have hlne : l ≠ [] := fun e => by
      have := congrArg List.length hl
      rw [e, ← hN2] at this
      obtain ⟨t, T', rfl⟩ := List.exists_cons_of_ne_nil hTne
      simp at this hNT
      omega
     conv => whnf
     refine Sm.seqW ?_
     conv => whnf
     refine stringC_spec hp .here .here hC1 hlne (by rw [hl]; exact hb) (by rw [hl, hN2]; exact Nat.le_refl _) ?_
     clear hp
     intro s' hp
     conv => whnf
     refine Sm.ofW ?_
     conv => whnf
     exact ⟨hp.fr, by rw [hl]; rfl⟩
end

/- Lines of an entry in memory; kinds of accounts. No condition. -/
section
variable [Lk]
def Ln.cells (x : Ln) : List Value := [.int .i64 x.acct, .bool x.amt.neg, .int .u64 ((x.amt.c % w64 : Nat) : Int), .int .u64 ((x.amt.c / w64 : Nat) : Int), .int .i64 x.amt.scale, .int .i64 x.wth]
def Ln.val (x : Ln) : Value := .agg #[.int .i64 x.acct, .bool x.amt.neg, .int .u64 ((x.amt.c % w64 : Nat) : Int), .int .u64 ((x.amt.c / w64 : Nat) : Int), .int .i64 x.amt.scale, .int .i64 x.wth]
def lnC (ls : List Ln) : List Value := (ls.map Ln.cells).flatten
theorem lnC_cons (t : Ln) (ts : List Ln) : lnC (t :: ts) = t.cells ++ lnC ts := by simp [lnC]
theorem lnC_app (a b : List Ln) : lnC (a ++ b) = lnC a ++ lnC b := by simp [lnC]
theorem lnC_at : ∀ {ts : List Ln} {i : Nat} (h : i < ts.length), ((lnC ts).drop (i * 6)).take 6 = ts[i].cells
 | t :: ts, 0, _ => rfl
 | t :: ts, i + 1, h => by
   have := lnC_at (ts := ts) (i := i) (by simpa using h)
   rw [lnC_cons, show (i + 1) * 6 = 6 + i * 6 by omega, ← List.drop_drop]
   exact this
theorem LT : SlT Tryz.prog 24 35 6 48 Ln.zero.val := ⟨Tryz.underlying24, ⟨_, rfl, rfl, rfl, rfl⟩, rfl, rfl, by decide, by decide⟩
abbrev Sln (s : St) (κ : Option Nat) (v : Value) (ls : List Ln) : Prop := Sl s κ v 6 ls.length (lnC ls)
theorem index_ln {s : St} {κ : Option Nat} {v : Value} {l : List Ln} (h : Sln s κ v l) (k : IntKind) {i : Nat} (hi : i < l.length) :
  ∃ a, evIndexAddr Tryz.prog 24 v (.int k (i : Int)) = some (.pointer (some a)) ∧ evLoad Tryz.prog 35 (.pointer (some a)) s = some l[i].val := by
 obtain ⟨a, e1, e2⟩ := index_slN LT Tryz.underlying35 h k hi
 rw [lnC_at hi] at e2
 exact ⟨a, e1, e2⟩
end

/- entry.short, needless and one walked. No condition. -/
section
variable [Lk]
theorem small_iff {l : List UInt8} : (¬ smallF l < 0) ↔ ∃ j, j < 100 ∧ l = itoaF j := by
 constructor
 · intro h
   obtain ⟨k, h1, h2, _⟩ := smallF_ok h
   exact ⟨k, h1, h2⟩
 · rintro ⟨j, h1, h2⟩ h
   exact smallF_no h j h1 h2
theorem eshort_spec {z : St} (wf : WF z) (hg : Gs z) (l : List UInt8) (hl : l.length ≤ 281474976710656) :
  Cw Tryz.prog 101 [sv l] z fun r s' => K0 z s' ∧ ∃ n : Int, r = .tuple #[.int .i64 n, .bool (decide (¬ smallF l < 0))] ∧ (¬ smallF l < 0 → n = smallF l) := by
 have hp : Hp (fun _ => False) z [] [] z := Hp.start _ wf _ (by simp)
 refine Cw.enterS Tryz.func101 rfl rfl ?_
 refine Sm.seqW ?_
 conv => whnf
 refine Sm.live [0] ?_
 conv => whnf
 refine Sm.seqW ?_
 conv => whnf
 refine hp.call (atoi2_spec hp.wf hg l hl) ?_
 clear hp
 rintro _ s ⟨n, e, rfl, hn, he, hk⟩ hp _
 have fin : ∀ b : Bool, (b = true ↔ ∃ j, j < 100 ∧ l = itoaF j) → (∃ n' : Int, Value.tuple #[.int .i64 n, .bool b] = .tuple #[.int .i64 n', .bool (decide (¬ smallF l < 0))] ∧ (¬ smallF l < 0 → n' = smallF l)) := by
  intro b hb
  have e1 : b = decide (¬ smallF l < 0) := by rw [Bool.eq_iff_iff, hb, decide_eq_true_iff]; exact small_iff.symm
  refine ⟨n, by rw [e1], fun h => ?_⟩
  obtain ⟨k, h1, h2, h3⟩ := smallF_ok h
  rw [h3]; exact (hk k h1 h2).1
 conv => whnf
 refine Sm.live [0, 4, 5] ?_
 conv => whnf
 refine Sm.seqW ?_
 conv => whnf
 rcases he with rfl | ⟨v, rfl⟩
 · refine Om.of (.bool true) (by kernel_rfl) ?_
   conv => whnf
   by_cases h1 : 0 ≤ n
   · have q1 : decide (n ≥ 0) = true := decide_eq_true h1
     by_cases h2 : n < 100
     · have q2 : decide (n < 100) = true := decide_eq_true h2
       obtain ⟨k, rfl⟩ : ∃ k : Nat, n = k := ⟨n.toNat, by omega⟩
       repeat (first | (refine Br.yes q1 ?_; conv => whnf) | (refine Br.yes q2 ?_; conv => whnf) | ((first | refine Br.y1 ?_ | refine Br.n1 ?_); conv => whnf))
       refine (itoa2_spec _ (show k < 100 by omega)).mono ?_
       rintro _ s1 ⟨h1, rfl⟩
       obtain rfl := h1.symm
       conv => whnf
       repeat (first | (refine Br.yes q1 ?_; conv => whnf) | (refine Br.yes q2 ?_; conv => whnf) | ((first | refine Br.y1 ?_ | refine Br.n1 ?_); conv => whnf))
       refine Om.of _ (sv_eq (itoaF k) l) ?_
       conv => whnf
       repeat (first | (refine Br.yes q1 ?_; conv => whnf) | (refine Br.yes q2 ?_; conv => whnf) | ((first | refine Br.y1 ?_ | refine Br.n1 ?_); conv => whnf))
       refine Sm.live [2, 3] ?_
       conv => whnf
       refine Sm.ofW ?_
       conv => whnf
       refine ⟨hp.fr, fin _ ?_⟩
       rw [beq_iff_eq]
       constructor
       · intro h; exact ⟨k, by omega, h.symm⟩
       · rintro ⟨j, h3, h4⟩
         have := (hk j h3 h4).1
         have : k = j := Int.ofNat.inj this
         subst this
         exact h4.symm
     · have q2 : decide (n < 100) = false := decide_eq_false h2
       repeat (first | (refine Br.yes q1 ?_; conv => whnf) | (refine Br.no q2 ?_; conv => whnf) | ((first | refine Br.y1 ?_ | refine Br.n1 ?_); conv => whnf))
       refine Sm.live [2, 3] ?_
       conv => whnf
       refine Sm.ofW ?_
       conv => whnf
       exact ⟨hp.fr, fin _ ⟨fun h => (by cases h), fun ⟨j, h3, h4⟩ => by have := (hk j h3 h4).1; omega⟩⟩
   · have q1 : decide (n ≥ 0) = false := decide_eq_false h1
     repeat (first | (refine Br.no q1 ?_; conv => whnf) | ((first | refine Br.y1 ?_ | refine Br.n1 ?_); conv => whnf))
     refine Sm.live [2, 3] ?_
     conv => whnf
     refine Sm.ofW ?_
     conv => whnf
     exact ⟨hp.fr, fin _ ⟨fun h => (by cases h), fun ⟨j, h3, h4⟩ => by have := (hk j h3 h4).1; omega⟩⟩
 · refine Om.of (.bool false) (by rfl) ?_
   conv => whnf
   repeat ((first | refine Br.y1 ?_ | refine Br.n1 ?_); conv => whnf)
   refine Sm.live [2, 3] ?_
   conv => whnf
   refine Sm.ofW ?_
   conv => whnf
   exact ⟨hp.fr, fin _ ⟨fun h => (by cases h), fun ⟨j, h3, h4⟩ => by have := (hk j h3 h4).2; cases this⟩⟩
def trimF1 (l p : List UInt8) : List UInt8 := if hasP l p = true then l.drop p.length else l
theorem trimPre_spec (s : St) (l p : List UInt8) : Cw Tryz.prog 131 [sv l, sv p] s fun r s' => s' = s ∧ r = sv (trimF1 l p) := by
 have h1 : Cw Tryz.prog 149 [sv l, sv p] s fun r s' => s' = s ∧ r = sv (trimF1 l p) := by
  refine Cw.enterS Tryz.func149 rfl rfl ?_
  refine Sm.seqW ?_
  conv => whnf
  refine Sm.live [0, 1] ?_
  conv => whnf
  refine Sm.seq ?_
  refine Sm.seqW ?_
  conv => whnf
  refine (hasPrefix_spec _ l p).mono ?_
  rintro _ s1 ⟨h1, rfl⟩
  obtain rfl := h1.symm
  conv => whnf
  refine Sm.live [0, 1, 7] ?_
  conv => whnf
  refine Sm.ofW ?_
  conv => whnf
  unfold trimF1
  cases hq : hasP l p with
  | true =>
    repeat ((first | refine Br.y1 ?_ | refine Br.n1 ?_); conv => whnf)
    have hle : p.length ≤ l.length := by
     unfold hasP at hq
     simp only [Bool.and_eq_true, decide_eq_true_eq] at hq
     exact hq.1
    refine Om.of _ (str_drop Tryz.underlying9 (l := l) (j := p.length) .i64 hle) ?_
    conv => whnf
    exact ⟨rfl, by rw [if_pos rfl]; rfl⟩
  | false =>
    repeat ((first | refine Br.y1 ?_ | refine Br.n1 ?_); conv => whnf)
    refine Sm.seqW ?_
    conv => whnf
    refine Sm.live [4] ?_
    conv => whnf
    refine Sm.ofW ?_
    conv => whnf
    exact ⟨rfl, by rw [if_neg (by decide)]; rfl⟩
 refine Cw.enterS Tryz.func131 rfl rfl ?_
 refine Sm.seqW ?_
 conv => whnf
 refine Sm.live [0, 1] ?_
 conv => whnf
 refine Sm.seqW ?_
 conv => whnf
 refine h1.mono ?_
 rintro _ s1 ⟨h1, rfl⟩
 obtain rfl := h1.symm
 conv => whnf
 refine Sm.live [4] ?_
 conv => whnf
 refine Sm.ofW ?_
 conv => whnf
 exact ⟨rfl, rfl⟩
theorem u8_beq48 (c : UInt8) : (((c.toNat : Nat) : Int) == 48) = (c == 48) := by
 rw [Bool.eq_iff_iff, beq_iff_eq, beq_iff_eq]
 exact ⟨fun h => UInt8.toNat_inj.1 (Int.ofNat.inj h), fun h => by rw [h]; rfl⟩
theorem u8_bne46 (c : UInt8) : (!(((c.toNat : Nat) : Int) == 46)) = !(c == 46) := by
 congr 1
 rw [Bool.eq_iff_iff, beq_iff_eq, beq_iff_eq]
 exact ⟨fun h => UInt8.toNat_inj.1 (Int.ofNat.inj h), fun h => by rw [h]; rfl⟩
theorem needless_spec (s : St) (l : List UInt8) : Cw Tryz.prog 103 [sv l] s fun r s' => s' = s ∧ r = .bool (lessN l) := by
 refine Cw.enterS Tryz.func103 rfl rfl ?_
 refine Sm.seqW ?_
 conv => whnf
 refine Sm.live [0] ?_
 conv => whnf
 refine Sm.seqW ?_
 conv => whnf
 refine (trimPre_spec _ l [45]).mono ?_
 rintro _ s1 ⟨h1, rfl⟩
 obtain rfl := h1.symm
 conv => whnf
 have hb : trimF1 l [45] = bodyF l := rfl
 rw [hb]
 refine Sm.live [0] ?_
 conv => whnf
 refine Sm.ofW ?_
 conv => whnf
 unfold lessN
 cases bodyF l with
 | nil =>
   repeat ((first | refine Br.y1 ?_ | refine Br.n1 ?_); conv => whnf)
   exact ⟨rfl, rfl⟩
 | cons a r =>
   cases r with
   | nil =>
     repeat ((first | refine Br.y1 ?_ | refine Br.n1 ?_); conv => whnf)
     exact ⟨rfl, rfl⟩
   | cons b r =>
     have q : decide ((((bs ⟨(a :: b :: r).toArray⟩).length : Nat) : Int) > 1) = true := decide_eq_true (by show (((a :: b :: r).length : Nat) : Int) > 1; simp only [List.length_cons]; omega)
     repeat (first | (refine Br.yes q ?_; conv => whnf) | ((first | refine Br.y1 ?_ | refine Br.n1 ?_); conv => whnf))
     refine Om.of _ (str_index Tryz.underlying9 (l := a :: b :: r) (i := 0) (by simp) .i64) ?_
     conv => whnf
     have e1 : ((((a :: b :: r)[0]'(by simp)).toNat : Nat) : Int) = ((a.toNat : Nat) : Int) := rfl
     repeat (first | (refine Br.yes q ?_; conv => whnf) | ((first | refine Br.y1 ?_ | refine Br.n1 ?_); conv => whnf))
     rw [e1, u8_beq48]
     repeat (first | (refine Br.yes q ?_; conv => whnf) | ((first | refine Br.y1 ?_ | refine Br.n1 ?_); conv => whnf))
     cases h48 : a == 48 with
     | true =>
       repeat (first | (refine Br.yes h48 ?_; conv => whnf) | ((first | refine Br.y1 ?_ | refine Br.n1 ?_); conv => whnf))
       refine Om.of _ (str_index Tryz.underlying9 (l := a :: b :: r) (i := 1) (by simp) .i64) ?_
       conv => whnf
       have e2 : ((((a :: b :: r)[1]'(by simp)).toNat : Nat) : Int) = ((b.toNat : Nat) : Int) := rfl
       repeat (first | (refine Br.yes h48 ?_; conv => whnf) | ((first | refine Br.y1 ?_ | refine Br.n1 ?_); conv => whnf))
       exact ⟨rfl, congrArg Value.bool (by show (!(((b.toNat : Nat) : Int) == 46)) = (a == 48 && !(b == 46)); rw [h48, Bool.true_and]; exact u8_bne46 b)⟩
     | false =>
       repeat (first | (refine Br.no h48 ?_; conv => whnf) | ((first | refine Br.y1 ?_ | refine Br.n1 ?_); conv => whnf))
       exact ⟨rfl, congrArg Value.bool (by show false = (a == 48 && !(b == 46)); rw [h48]; rfl)⟩
theorem cut_val (l : List UInt8) (c : UInt8) : cutF l c = .tuple #[sv (cut1 c l), sv (cut2 c l), .bool (cutQ c l)] := by
 unfold cutF cut1 cut2 cutQ
 show (match idxL c.toNat l 0 with
  | some i => Value.tuple #[sv (l.take i), sv (l.drop (i + 1)), .bool true]
  | none => .tuple #[sv l, sv [], .bool false]) = _
 cases idxL c.toNat l 0 <;> rfl
theorem cut1_len (c : UInt8) (l : List UInt8) : (cut1 c l).length ≤ l.length := by
 unfold cut1; split <;> simp; omega
theorem cut2_len (c : UInt8) (l : List UInt8) : (cut2 c l).length ≤ l.length := by
 unfold cut2; split <;> simp
theorem readD_c (l : List UInt8) : (readD l).1.c < w128 := by
 unfold readD
 split
 · decide
 · split
   · decide
   · split
     · decide
     · rename_i h _
       exact Nat.lt_trans (Nat.lt_of_not_le h) (by decide)
theorem one_spec {z : St} (wf : WF z) (hg : Gs z) (l : List UInt8) (hl : l.length ≤ 281474976710656) :
  Cw Tryz.prog 59 [sv l] z fun r s' => K0 z s' ∧ r = .tuple #[(oneF l).1.val, .int .i64 (oneF l).2] := by
 have hp : Hp (fun _ => False) z [] [] z := Hp.start _ wf _ (by simp)
 have hA := cut1_len 58 l
 have hR := cut2_len 58 l
 have hB := cut1_len 64 (cut2 58 l)
 have hW := cut2_len 64 (cut2 58 l)
 have hone : oneF l = (if (!cutQ 58 l || (decide (smallF (cut1 58 l) < 0) || (cutQ 64 (cut2 58 l) && decide (smallF (cut2 64 (cut2 58 l)) < 0)))) = true then (Ln.zero, 2) else
  if (((readD (cut1 64 (cut2 58 l))).2 == 0 && !(printF (readD (cut1 64 (cut2 58 l))).1 == cut1 64 (cut2 58 l))) || lessN (cut1 64 (cut2 58 l))) = true then (Ln.zero, 2) else
  (⟨smallF (cut1 58 l), (readD (cut1 64 (cut2 58 l))).1, if cutQ 64 (cut2 58 l) = true then smallF (cut2 64 (cut2 58 l)) else -1⟩, (readD (cut1 64 (cut2 58 l))).2)) := rfl
 rw [hone]
 clear hone
 refine Cw.enterS Tryz.func59 rfl rfl ?_
 refine Sm.seqW ?_
 conv => whnf
 refine hp.alloc (cs := Ln.zero.cells) (e := 6) rfl rfl rfl rfl rfl ?_
 clear hp
 intro p2 s hp _
 conv => whnf
 refine Sm.live [0, 2] ?_
 conv => whnf
 refine Sm.seqW ?_
 conv => whnf
 refine (cut_spec _ l (by omega) 58).mono ?_
 rintro _ s1 ⟨h1, rfl⟩
 obtain rfl := h1.symm
 conv => whnf
 rw [cut_val]
 generalize cut1 58 l = A at *
 generalize cut2 58 l = R at *
 generalize cutQ 58 l = qA at *
 conv => whnf
 refine Sm.live [2, 4, 5, 6] ?_
 conv => whnf
 refine Sm.seqW ?_
 conv => whnf
 refine (cut_spec _ R (by omega) 64).mono ?_
 rintro _ s1 ⟨h1, rfl⟩
 obtain rfl := h1.symm
 conv => whnf
 rw [cut_val]
 generalize cut1 64 R = B at *
 generalize cut2 64 R = W at *
 generalize cutQ 64 R = qW at *
 conv => whnf
 refine Sm.live [2, 4, 6, 7, 8, 9] ?_
 conv => whnf
 refine Sm.seqW ?_
 conv => whnf
 refine hp.alloc (cs := Ln.zero.cells) (e := 6) rfl rfl rfl rfl rfl ?_
 clear hp
 intro p10 s hp _
 conv => whnf
 refine hp.storeW (vs := (Ln.mk 0 Dc.zero (-1)).cells) rfl .d csx rfl rfl rfl ?_
 clear hp
 intro s hp _
 conv => whnf
 refine Sm.live [2, 4, 6, 7, 8, 9, 10] ?_
 conv => whnf
 refine Sm.seqW ?_
 conv => whnf
 refine Sm.live [2, 4, 6, 7, 8, 9, 10, 12] ?_
 conv => whnf
 refine Sm.seqW ?_
 conv => whnf
 refine hp.call (eshort_spec hp.wf (hg.keep hp.fr) A (by omega)) ?_
 clear hp
 rintro _ s ⟨n, rfl, hn⟩ hp _
 conv => whnf
 refine hp.store (off := 0) .d (by show 0 < 6; decide) rfl rfl rfl rfl ?_
 clear hp
 intro s hp _
 replace hp : Hp (fun _ => False) z [] [blkA p10 p10 (Ln.mk n Dc.zero (-1)).cells 6, blkA p2 p2 Ln.zero.cells 6] s := hp
 conv => whnf
 refine Sm.live [2, 6, 7, 8, 9, 10, 11, 12] ?_
 conv => whnf
 refine Sm.seqC (fun e L' s' => e = .normal ∧ ∃ w b, Hp (fun _ => False) z [] [blkA p10 p10 (Ln.mk n Dc.zero w).cells 6, blkA p2 p2 Ln.zero.cells 6] s' ∧ (qW = true → b = decide (¬ smallF W < 0) ∧ (b = true → w = smallF W)) ∧ (qW = false → w = -1) ∧ Sub [(2, .pointer (some ⟨p2, 0, none⟩)), (6, .bool qA), (7, sv B), (9, .bool qW), (10, .pointer (some ⟨p10, 0, none⟩)), (11, .bool (decide (¬ smallF A < 0))), (12, .bool b)] L') ?_ ?_
 · conv => whnf
   cases qW with
   | true =>
     repeat ((first | refine Br.y1 ?_ | refine Br.n1 ?_); conv => whnf)
     refine hp.call (eshort_spec hp.wf (hg.keep hp.fr) W (by omega)) ?_
     clear hp
     rintro _ s ⟨w, rfl, hw⟩ hp _
     conv => whnf
     refine hp.store (off := 5) .d (by show 5 < 6; decide) rfl rfl rfl rfl ?_
     clear hp
     intro s hp _
     replace hp : Hp (fun _ => False) z [] [blkA p10 p10 (Ln.mk n Dc.zero w).cells 6, blkA p2 p2 Ln.zero.cells 6] s := hp
     conv => whnf
     exact ⟨rfl, w, _, hp, fun _ => ⟨rfl, fun h => hw (of_decide_eq_true h)⟩, fun h => (by cases h), subK_ok ⟨rfl, rfl, rfl, rfl, rfl, rfl, rfl, trivial⟩⟩
   | false =>
     repeat ((first | refine Br.y1 ?_ | refine Br.n1 ?_); conv => whnf)
     exact ⟨rfl, -1, false, hp, fun h => (by cases h), fun _ => rfl, subK_ok ⟨rfl, rfl, rfl, rfl, rfl, rfl, rfl, trivial⟩⟩
 clear hp
 rintro e L' s ⟨rfl, w, b, hp, hb, hw1, hs⟩
 refine Sm.weak _ hs ?_
 clear hs
 obtain ⟨bad, hbad⟩ : ∃ bad, bad = (!qA || (decide (smallF A < 0) || (qW && decide (smallF W < 0)))) := ⟨_, rfl⟩
 rw [← hbad]
 refine Sm.seq ?_
 refine Sm.seqC (fun e L' s' => e = .normal ∧ s' = s ∧ Sub [(2, .pointer (some ⟨p2, 0, none⟩)), (7, sv B), (10, .pointer (some ⟨p10, 0, none⟩)), (52, .bool bad)] L') ?_ ?_
 · conv => whnf
   repeat' (first | (refine Br.yes (by first | with_reducible rfl | with_reducible assumption) ?_; conv => whnf) | (refine Br.no (by first | with_reducible rfl | with_reducible assumption) ?_; conv => whnf) | (refine Br.mk (fun hq => ?_) (fun hq => ?_) <;> conv => whnf))
   all_goals refine ⟨rfl, rfl, subK_ok ⟨rfl, rfl, rfl, congrArg (fun x => some (Value.bool x)) ?_, trivial⟩⟩
   all_goals rw [hbad]
   all_goals simp_all
   all_goals (rw [Bool.eq_iff_iff]; simp; omega)
 rintro e L' s' ⟨rfl, rfl, hs⟩
 refine Sm.weak _ hs ?_
 clear hs
 refine Sm.ofW ?_
 conv => whnf
 cases bad with
 | true =>
   repeat ((first | refine Br.y1 ?_ | refine Br.n1 ?_); conv => whnf)
   refine hp.storeW (vs := Ln.zero.cells) rfl .d csx rfl rfl rfl ?_
   clear hp
   intro s hp _
   conv => whnf
   refine hp.loadA (l := Ln.zero.cells) .d rfl (by rfl) rfl rfl ?_
   conv => whnf
   exact ⟨hp.fr, by rw [if_pos rfl]; rfl⟩
 | false =>
   rw [if_neg (by decide)]
   have hA0 : ¬ smallF A < 0 := by
    intro h
    rw [decide_eq_true h] at hbad; simp at hbad
   have hn := hn hA0
   subst hn
   have hwv : w = if qW = true then smallF W else -1 := by
    cases qW with
    | false => rw [if_neg (by decide)]; exact hw1 rfl
    | true =>
      rw [if_pos rfl]
      have hW0 : ¬ smallF W < 0 := by
       intro h
       rw [decide_eq_true h] at hbad; simp at hbad
      exact (hb rfl).2 (by rw [(hb rfl).1]; exact decide_eq_true hW0)
   rw [← hwv]
   clear hb hw1 hbad hwv
   repeat ((first | refine Br.y1 ?_ | refine Br.n1 ?_); conv => whnf)
   refine Sm.seqW ?_
   conv => whnf
   refine Sm.live [2, 7, 10] ?_
   conv => whnf
   refine Sm.seqW ?_
   conv => whnf
   refine hp.call (read_spec hp.wf B (by omega)) ?_
   clear hp
   rintro _ s rfl hp _
   conv => whnf
   rw [readF_D]
   have hdc := readD_c B
   generalize readD B = d at *
   obtain ⟨d, e⟩ := d
   simp only at hdc ⊢
   conv => whnf
   refine hp.storeA (off := 1) (vs := d.cells) rfl .d (by show 1 + 4 ≤ 6; decide) rfl rfl rfl ?_
   clear hp
   intro s hp _
   replace hp : Hp (fun _ => False) z [] [blkA p10 p10 (Ln.mk (smallF A) d w).cells 6, blkA p2 p2 Ln.zero.cells 6] s := hp
   conv => whnf
   refine Sm.live [2, 7, 10, 13] ?_
   conv => whnf
   refine Sm.seq ?_
   refine Sm.seqC (fun e' L' s' => e' = .normal ∧ Hp (fun _ => False) z [] [blkA p10 p10 (Ln.mk (smallF A) d w).cells 6, blkA p2 p2 Ln.zero.cells 6] s' ∧ Sub [(2, .pointer (some ⟨p2, 0, none⟩)), (10, .pointer (some ⟨p10, 0, none⟩)), (13, .int .i64 e), (72, .bool ((e == 0 && !(printF d == B)) || lessN B))] L') ?_ ?_
   · conv => whnf
     cases he : e == 0 with
     | true =>
       repeat (first | (refine Br.yes he ?_; conv => whnf) | ((first | refine Br.y1 ?_ | refine Br.n1 ?_); conv => whnf))
       refine hp.loadA (l := d.cells) .d rfl (by rfl) rfl rfl ?_
       conv => whnf
       repeat (first | (refine Br.yes he ?_; conv => whnf) | ((first | refine Br.y1 ?_ | refine Br.n1 ?_); conv => whnf))
       refine hp.call (print_spec hp.wf d hdc) ?_
       clear hp
       rintro _ s rfl hp _
       conv => whnf
       repeat (first | (refine Br.yes he ?_; conv => whnf) | ((first | refine Br.y1 ?_ | refine Br.n1 ?_); conv => whnf))
       refine Om.of _ (sv_ne (printF d) B) ?_
       conv => whnf
       cases hq : printF d == B with
       | true =>
         repeat (first | (refine Br.yes he ?_; conv => whnf) | ((first | refine Br.y1 ?_ | refine Br.n1 ?_); conv => whnf))
         refine (needless_spec _ B).mono ?_
         rintro _ s1 ⟨h1, rfl⟩
         obtain rfl := h1.symm
         conv => whnf
         repeat (first | (refine Br.yes he ?_; conv => whnf) | ((first | refine Br.y1 ?_ | refine Br.n1 ?_); conv => whnf))
         exact ⟨rfl, hp, subK_ok ⟨rfl, rfl, rfl, rfl, trivial⟩⟩
       | false =>
         repeat (first | (refine Br.yes he ?_; conv => whnf) | ((first | refine Br.y1 ?_ | refine Br.n1 ?_); conv => whnf))
         exact ⟨rfl, hp, subK_ok ⟨rfl, rfl, rfl, rfl, trivial⟩⟩
     | false =>
       repeat (first | (refine Br.no he ?_; conv => whnf) | ((first | refine Br.y1 ?_ | refine Br.n1 ?_); conv => whnf))
       refine (needless_spec _ B).mono ?_
       rintro _ s1 ⟨h1, rfl⟩
       obtain rfl := h1.symm
       conv => whnf
       repeat (first | (refine Br.no he ?_; conv => whnf) | ((first | refine Br.y1 ?_ | refine Br.n1 ?_); conv => whnf))
       exact ⟨rfl, hp, subK_ok ⟨rfl, rfl, rfl, rfl, trivial⟩⟩
   clear hp
   rintro e' L' s ⟨rfl, hp, hs⟩
   refine Sm.weak _ hs ?_
   clear hs
   refine Sm.ofW ?_
   conv => whnf
   cases hq : (e == 0 && !(printF d == B)) || lessN B with
   | true =>
     rw [if_pos rfl]
     repeat (first | (refine Br.yes hq ?_; conv => whnf) | ((first | refine Br.y1 ?_ | refine Br.n1 ?_); conv => whnf))
     refine hp.storeW (vs := Ln.zero.cells) rfl .d csx rfl rfl rfl ?_
     clear hp
     intro s hp _
     conv => whnf
     refine hp.loadA (l := Ln.zero.cells) .d rfl (by rfl) rfl rfl ?_
     conv => whnf
     exact ⟨hp.fr, rfl⟩
   | false =>
     rw [if_neg (by decide)]
     repeat (first | (refine Br.no hq ?_; conv => whnf) | ((first | refine Br.y1 ?_ | refine Br.n1 ?_); conv => whnf))
     refine Sm.seqW ?_
     conv => whnf
     refine hp.loadA (l := (Ln.mk (smallF A) d w).cells) .d rfl (by rfl) rfl rfl ?_
     conv => whnf
     refine hp.storeW (vs := (Ln.mk (smallF A) d w).cells) rfl .d csx rfl rfl rfl ?_
     clear hp
     intro s hp _
     conv => whnf
     refine Sm.live [2, 3] ?_
     conv => whnf
     refine Sm.ofW ?_
     conv => whnf
     refine hp.loadA (l := (Ln.mk (smallF A) d w).cells) .d rfl (by rfl) rfl rfl ?_
     conv => whnf
     exact ⟨hp.fr, rfl⟩
end

/- entry.Read walked. No condition. -/
section
variable [Lk]
def worstF (T : List (List UInt8)) : Int := if (T.any fun t => !((oneF t).2 == 0)) = true then 3 else 0
theorem worst_snoc (T : List (List UInt8)) (t : List UInt8) (h : (oneF t).2 ≠ 2) : worstF (T ++ [t]) = if worstF T < (oneF t).2 then (oneF t).2 else worstF T := by
 unfold worstF
 rw [List.any_append, List.any_cons, List.any_nil, Bool.or_false]
 have he : (oneF t).2 = 0 ∨ (oneF t).2 = 3 := by
  rcases oneF_e t with g | g | g
  · exact .inl g
  · exact absurd g h
  · exact .inr g
 cases (T.any fun t => !((oneF t).2 == 0)) with
 | true =>
   rcases he with g | g <;> rw [g] <;> decide
 | false =>
   rcases he with g | g <;> rw [g] <;> decide
theorem readL_len (l : List UInt8) : (readL l).1.length ≤ 8 := by
 unfold readL
 split
 · simp
 · split
   · simp
   · split
     · simp
     · simp; omega
theorem eread_spec {z : St} (wf : WF z) (hg : Gs z) (l : List UInt8) (hl : l.length ≤ 10000000000000) :
  Cw Tryz.prog 19 [sv l] z fun r s' => K0 z s' ∧ ∃ w, r = .tuple #[w, .int .i64 (readL l).2] ∧ OwnN z.next s' w 6 (readL l).1.length (lnC (readL l).1) := by
 have hp : Hp (fun _ => False) z [] [] z := Hp.start _ wf _ (by simp)
 have hml : ∀ w ∈ splitL 44 l, w.length ≤ l.length := fun w hw => mem_split_len hw
 have hread : readL l = (if 8 < (splitL 44 l).length then ([], 2) else
  if ((splitL 44 l).any fun t => (oneF t).2 == 2) = true then ([], 2) else
  if ((splitL 44 l).any fun t => !((oneF t).2 == 0)) = true then ([], 3) else ((splitL 44 l).map fun t => (oneF t).1, 0)) := rfl
 rw [hread]
 clear hread
 refine Cw.enterS Tryz.func19 rfl rfl ?_
 refine Sm.seqW ?_
 conv => whnf
 refine Sm.live [0] ?_
 conv => whnf
 refine Sm.seqW ?_
 conv => whnf
 refine hp.callO (split_spec hp.wf l hl 44) ?_
 clear hp
 intro w κ s hp _
 generalize splitL 44 l = T at *
 obtain ⟨a, cp, rfl⟩ := (hp.slF (κ := κ) (v := w) .d).shape
 conv => whnf
 refine Sm.live [4] ?_
 conv => whnf
 refine Sm.seq ?_
 refine Sm.seqW ?_
 conv => whnf
 refine Sm.live [4, 15] ?_
 conv => whnf
 refine Sm.ofW ?_
 conv => whnf
 by_cases h8 : 8 < T.length
 · rw [if_pos h8]
   have q : decide (((T.length : Nat) : Int) > 8) = true := decide_eq_true (by omega)
   refine Br.yes q ?_
   conv => whnf
   exact ⟨hp.fr, _, rfl, ⟨.inl ⟨rfl, rfl, rfl⟩⟩⟩
 rw [if_neg h8]
 refine Br.no (decide_eq_false (by omega)) ?_
 conv => whnf
 refine Sm.seqW ?_
 conv => whnf
 refine Sm.live [4, 5] ?_
 conv => whnf
 refine Sm.seqW ?_
 conv => whnf
 refine Sm.live [4, 5, 6] ?_
 conv => whnf
 refine Sm.seq ?_
 refine Sm.seqW ?_
 conv => whnf
 refine Sm.live [5, 6, 16, 17, 18] ?_
 conv => whnf
 refine Sm.block ?_
 refine Sm.loop ?_
 refine Lp.ofS (α := Nat × Option Nat × Value) (fun x => [(5, x.2.2), (6, .int .i64 (worstF (T.take x.1))), (16, .slice a T.length cp), (17, .int .i64 ((T.length : Nat) : Int)), (18, .int .i64 (x.1 : Int))])
  (fun x s' => x.1 ≤ T.length ∧ (∀ t ∈ T.take x.1, (oneF t).2 ≠ 2) ∧ Hp (fun _ => False) z [] [onA x.2.1 x.2.2 6 x.1 (lnC ((T.take x.1).map fun t => (oneF t).1)), onA κ (.slice a T.length cp) 1 T.length (T.map sv)] s') (fun x => T.length - x.1) ?_ (0, none, .slice none 0 0) (subK_ok (by refine ⟨rfl, rfl, rfl, rfl, rfl, trivial⟩)) ⟨Nat.zero_le _, fun t ht => (by cases ht), (hp.nilA 6).pik (by repeat (first | exact Pik.nil | exact Pik.refl _ | exact Rm.here | apply Rm.there | apply Pik.cons | apply Pik.skip))⟩
 clear hp
 rintro ⟨i, κo, vo⟩ s ⟨hi, hno, hp⟩
 simp only at hi hno hp
 refine Sm.seqW ?_
 conv => whnf
 refine Sm.live [5, 6, 16, 17, 18, 19] ?_
 conv => whnf
 refine Sm.seq ?_
 refine Sm.ofW ?_
 conv => whnf
 refine Br.mk (fun hc => ?_) (fun hc => ?_)
 · have hc : i < T.length := by have : (i : Int) < ((T.length : Nat) : Int) := of_decide_eq_true hc; omega
   obtain ⟨e, g1, g2⟩ := index_sv (hp.slF (κ := κ) (v := .slice a T.length cp) .d) .i64 hc
   have htk : T.take (i + 1) = T.take i ++ [T[i]] := List.take_succ_eq_append_getElem hc
   have hmem : T[i] ∈ T := List.getElem_mem hc
   have hlt := hml _ hmem
   generalize hw : T[i] = t at *
   conv => whnf
   refine Sm.seq ?_
   refine Sm.block ?_
   refine Sm.seqW ?_
   conv => whnf
   refine Om.of _ (g1) ?_
   conv => whnf
   refine Om.of _ (g2) ?_
   conv => whnf
   refine Sm.live [5, 6, 8, 16, 17, 18] ?_
   conv => whnf
   refine Sm.seqW ?_
   conv => whnf
   refine hp.call (one_spec hp.wf (hg.keep hp.fr) t (by omega)) ?_
   clear hp
   rintro _ s rfl hp _
   conv => whnf
   have hwo := worst_snoc (T.take i) t
   refine hp.alloc (cs := Ln.zero.cells) (e := 6) rfl rfl rfl rfl rfl ?_
   clear hp
   intro p9 s hp _
   conv => whnf
   refine hp.storeW (vs := (oneF t).1.cells) rfl .d csx rfl rfl rfl ?_
   clear hp
   intro s hp _
   conv => whnf
   refine Sm.live [5, 6, 9, 10, 16, 17, 18] ?_
   conv => whnf
   refine Sm.seq ?_
   refine Sm.seqW ?_
   conv => whnf
   refine Sm.ofW ?_
   conv => whnf
   by_cases h2 : (oneF t).2 = 2
   · have q : ((oneF t).2 == 2) = true := beq_iff_eq.2 h2
     refine Br.yes q ?_
     conv => whnf
     have hany : (T.any fun t => (oneF t).2 == 2) = true := List.any_eq_true.2 ⟨t, hmem, q⟩
     rw [if_pos hany]
     exact ⟨hp.fr, _, by rw [h2]; rfl, ⟨.inl ⟨rfl, rfl, rfl⟩⟩⟩
   · have q : ((oneF t).2 == 2) = false := beq_eq_false_iff_ne.2 h2
     refine Br.no q ?_
     conv => whnf
     refine Sm.seqW ?_
     conv => whnf
     refine Sm.live [5, 6, 9, 16, 17, 18] ?_
     conv => whnf
     refine Sm.ofW ?_
     conv => whnf
     refine hp.loadA (l := (oneF t).1.cells) .d rfl (by rfl) rfl rfl ?_
     conv => whnf
     refine hp.lit (cs := (oneF t).1.cells) (e := 6) (by rfl) ?_
     clear hp
     intro b4 s4 hp _
     conv => whnf
     have x4 := hp.blkSl (n := 1) (C := (oneF t).1.cells) (k := b4) (b := b4) (e := 6) .d rfl
     refine hp.app LT Tryz.underlying24 rfl (κ := κo) (v := vo) .d (elems_sl x4) rfl rfl (by omega) ?_
     clear hp x4
     intro v5 κ5 s hp
     have e1 : lnC ((T.take i).map fun t => (oneF t).1) ++ (oneF t).1.cells = lnC ((T.take (i + 1)).map fun t => (oneF t).1) := by
      rw [htk, List.map_append, lnC_app]; simp [lnC]
     rw [e1] at hp
     conv => whnf
     refine Sm.ofW ?_
     conv => whnf
     exact ⟨(i + 1, κ5, v5), by (show T.length - (i + 1) < T.length - i); omega, subK_ok (by refine ⟨rfl, congrArg (fun x => some (Value.int .i64 x)) (by show (if (oneF t).2 > worstF (T.take i) then (oneF t).2 else worstF (T.take i)) = worstF (T.take (i + 1)); rw [htk]; exact (hwo h2).symm), rfl, rfl, congrArg (fun x => some (Value.int .i64 x)) (show IntKind.i64.wrap ((i : Int) + 1) = ((i + 1 : Nat) : Int) by rw [wi64 (by omega) (by omega)]; omega), trivial⟩), by (show i + 1 ≤ T.length); omega, fun t' ht' => by
      have ht' : t' ∈ T.take (i + 1) := ht'
      rw [htk] at ht'
      rcases List.mem_append.1 ht' with g | g
      · exact hno t' g
      · obtain rfl := List.mem_singleton.1 g; exact h2, hp.pik (by repeat (first | exact Pik.nil | exact Pik.refl _ | exact Rm.here | apply Rm.there | apply Pik.cons | apply Pik.skip))⟩
 · have hc : i = T.length := by have : ¬ (i : Int) < ((T.length : Nat) : Int) := of_decide_eq_false hc; omega
   subst hc
   rw [List.take_length] at hno hp
   have hno2 : ¬ (T.any fun t => (oneF t).2 == 2) = true := fun h => by
    obtain ⟨t, h1, h2⟩ := List.any_eq_true.1 h
    exact hno t h1 (beq_iff_eq.1 h2)
   rw [if_neg hno2]
   conv => whnf
   refine Sm.seq ?_
   refine Sm.seqW ?_
   conv => whnf
   refine Sm.ofW ?_
   conv => whnf
   show Br (!(worstF (T.take T.length) == 0)) _ _
   rw [List.take_length]
   unfold worstF
   cases hq : (T.any fun t => !((oneF t).2 == 0)) with
   | true =>
     rw [if_pos rfl]
     repeat ((first | refine Br.y1 ?_ | refine Br.n1 ?_); conv => whnf)
     exact ⟨hp.fr, _, rfl, ⟨.inl ⟨rfl, rfl, rfl⟩⟩⟩
   | false =>
     rw [if_neg (by decide)]
     repeat ((first | refine Br.y1 ?_ | refine Br.n1 ?_); conv => whnf)
     refine Sm.seqW ?_
     conv => whnf
     refine Sm.live [2, 3] ?_
     conv => whnf
     refine Sm.ofW ?_
     conv => whnf
     refine ⟨hp.fr, vo, rfl, ?_⟩
     have := hp.out .d
     show OwnN z.next s vo 6 (T.map fun t => (oneF t).1).length (lnC (T.map fun t => (oneF t).1))
     rw [List.length_map]
     exact this
end

/- entry.Print and Turned walked. No condition. -/
section
variable [Lk]
theorem sv_add {P : Program} {t : TypeId} {c : Bool} (a b : List UInt8) (h : a.length + b.length ≤ 281474976710656) : evBin P .add t c (sv a) (sv b) = some (sv (a ++ b)) := str_add _ _ h
structure MemLn (x : Ln) : Prop where
 acct : x.acct < 100
 wth : x.wth < 100
 amt : x.amt.c < w128
theorem print_le (d : Dc) : (printF d).length ≤ 32 := by
 cases h : d.right with
 | true => exact print_len h
 | false => rw [print_nil.2 h]; decide
theorem itoa_le (k : Nat) : (itoaF k).length ≤ 2 := by rw [itoaF_len]; split <;> omega
theorem line_le (x : Ln) : (lineT x).length ≤ 38 := by
 have h1 := itoa_le x.acct.toNat
 have h2 := itoa_le x.wth.toNat
 have h3 := print_le x.amt
 unfold lineT
 simp only [List.length_append, List.length_cons]
 split <;> simp <;> omega
theorem lines_le : ∀ ls : List Ln, (joinL 44 (ls.map lineT)).length ≤ 40 * ls.length
 | [] => by simp [joinL]
 | x :: r => by
   have h1 := line_le x
   have : ∀ r : List Ln, ((r.map lineT).flatMap fun w => (44 : UInt8) :: w).length ≤ 39 * r.length := by
    intro r
    induction r with
    | nil => simp
    | cons y r ih =>
      have := line_le y
      simp only [List.map_cons, List.flatMap_cons, List.length_append, List.length_cons]; omega
   have h2 := this r
   show (lineT x ++ ((r.map lineT).flatMap fun w => (44 : UInt8) :: w)).length ≤ _
   simp only [List.length_append, List.length_cons]; omega
theorem eprint_spec {z : St} (wf : WF z) {κ : Option Nat} {v : Value} {ls : List Ln} (hv : Sln z κ v ls) (hok : ∀ x ∈ ls, MemLn x) (hl : ls.length ≤ 1000) :
  Cw Tryz.prog 22 [v] z fun r s' => K0 z s' ∧ r = sv (printL ls) := by
 obtain ⟨a, cp, rfl⟩ := hv.shape
 have hp : Hp (fun _ => False) z [slA κ (.slice a ls.length cp) 6 ls.length (lnC ls)] [] z := Hp.start _ wf _ (by simp; exact hv)
 refine Cw.enterS Tryz.func22 rfl rfl ?_
 refine Sm.seqW ?_
 conv => whnf
 refine Sm.live [0] ?_
 conv => whnf
 refine Sm.seqW ?_
 conv => whnf
 refine Sm.live [0, 3] ?_
 conv => whnf
 refine Sm.seq ?_
 refine Sm.seqW ?_
 conv => whnf
 refine Sm.live [3, 8, 9, 10] ?_
 conv => whnf
 refine Sm.block ?_
 refine Sm.loop ?_
 refine Lp.ofS (α := Nat × Option Nat × Value) (fun x => [(3, x.2.2), (8, .slice a ls.length cp), (9, .int .i64 ((ls.length : Nat) : Int)), (10, .int .i64 (x.1 : Int))])
  (fun x s' => x.1 ≤ ls.length ∧ (ls.take x.1).any badLn = false ∧ Hp (fun _ => False) z [slA κ (.slice a ls.length cp) 6 ls.length (lnC ls)] [onA x.2.1 x.2.2 1 x.1 ((ls.take x.1).map fun y => sv (lineT y))] s') (fun x => ls.length - x.1) ?_ (0, none, .slice none 0 0) (subK_ok (by refine ⟨rfl, rfl, rfl, rfl, trivial⟩)) ⟨Nat.zero_le _, rfl, (hp.nilA 1).pik (by repeat (first | exact Pik.nil | exact Pik.refl _ | exact Rm.here | apply Rm.there | apply Pik.cons | apply Pik.skip))⟩
 clear hp
 rintro ⟨i, κo, vo⟩ s ⟨hi, hno, hp⟩
 simp only at hi hno hp
 refine Sm.seqW ?_
 conv => whnf
 refine Sm.live [3, 8, 9, 10, 11] ?_
 conv => whnf
 refine Sm.seq ?_
 refine Sm.ofW ?_
 conv => whnf
 refine Br.mk (fun hc => ?_) (fun hc => ?_)
 · have hc : i < ls.length := by have : (i : Int) < ((ls.length : Nat) : Int) := of_decide_eq_true hc; omega
   obtain ⟨e, g1, g2⟩ := index_ln (hp.slR (κ := κ) (v := .slice a ls.length cp) .here) .i64 hc
   have htk : ls.take (i + 1) = ls.take i ++ [ls[i]] := List.take_succ_eq_append_getElem hc
   have hmem : ls[i] ∈ ls := List.getElem_mem hc
   have hm := hok _ hmem
   generalize hw : ls[i] = x at *
   conv => whnf
   refine Sm.seq ?_
   refine Sm.block ?_
   refine Sm.seqW ?_
   conv => whnf
   refine Om.of _ (g1) ?_
   conv => whnf
   refine Om.of _ (g2) ?_
   conv => whnf
   refine hp.alloc (cs := Ln.zero.cells) (e := 6) rfl rfl rfl rfl rfl ?_
   clear hp
   intro p5 s hp _
   conv => whnf
   refine hp.storeW (vs := x.cells) rfl .d csx rfl rfl rfl ?_
   clear hp
   intro s hp _
   conv => whnf
   refine Sm.live [3, 5, 8, 9, 10] ?_
   conv => whnf
   refine Sm.seqW ?_
   conv => whnf
   refine hp.loadA (l := x.amt.cells) .d rfl (by rfl) rfl rfl ?_
   conv => whnf
   refine hp.call (print_spec hp.wf x.amt hm.amt) ?_
   clear hp
   rintro _ s rfl hp _
   conv => whnf
   have hpl := print_le x.amt
   refine Sm.live [3, 5, 6, 8, 9, 10] ?_
   conv => whnf
   refine Sm.seq ?_
   refine Sm.seqC (fun e' L' s' => e' = .normal ∧ s' = s ∧ Sub [(3, vo), (5, .pointer (some ⟨p5, 0, none⟩)), (6, sv (printF x.amt)), (8, .slice a ls.length cp), (9, .int .i64 ((ls.length : Nat) : Int)), (10, .int .i64 (i : Int)), (28, .bool (badLn x))] L') ?_ ?_
   · conv => whnf
     unfold badLn
     refine hp.load (v := .int .i64 x.acct) .d (by rfl) rfl rfl rfl ?_
     conv => whnf
     by_cases h1 : x.acct < 0
     · have q1 : decide (x.acct < 0) = true := decide_eq_true h1
       repeat (first | (refine Br.yes q1 ?_; conv => whnf) | ((first | refine Br.y1 ?_ | refine Br.n1 ?_); conv => whnf))
       exact ⟨rfl, rfl, subK_ok ⟨rfl, rfl, rfl, rfl, rfl, rfl, congrArg (fun x => some (Value.bool x)) (by rw [q1]; rfl), trivial⟩⟩
     have q1 : decide (x.acct < 0) = false := decide_eq_false h1
     repeat (first | (refine Br.no q1 ?_; conv => whnf) | ((first | refine Br.y1 ?_ | refine Br.n1 ?_); conv => whnf))
     refine hp.load (v := .int .i64 x.wth) .d (by rfl) rfl rfl rfl ?_
     conv => whnf
     repeat (first | (refine Br.no q1 ?_; conv => whnf) | ((first | refine Br.y1 ?_ | refine Br.n1 ?_); conv => whnf))
     by_cases h2 : x.wth < -1
     · have q2 : decide (x.wth < -1) = true := decide_eq_true h2
       repeat (first | (refine Br.no q1 ?_; conv => whnf) | (refine Br.yes q2 ?_; conv => whnf) | ((first | refine Br.y1 ?_ | refine Br.n1 ?_); conv => whnf))
       exact ⟨rfl, rfl, subK_ok ⟨rfl, rfl, rfl, rfl, rfl, rfl, congrArg (fun x => some (Value.bool x)) (by rw [q1, q2]; rfl), trivial⟩⟩
     have q2 : decide (x.wth < -1) = false := decide_eq_false h2
     repeat (first | (refine Br.no q1 ?_; conv => whnf) | (refine Br.no q2 ?_; conv => whnf) | ((first | refine Br.y1 ?_ | refine Br.n1 ?_); conv => whnf))
     refine Om.of _ (sv_eq (printF x.amt) []) ?_
     conv => whnf
     repeat (first | (refine Br.no q1 ?_; conv => whnf) | (refine Br.no q2 ?_; conv => whnf) | ((first | refine Br.y1 ?_ | refine Br.n1 ?_); conv => whnf))
     exact ⟨rfl, rfl, subK_ok ⟨rfl, rfl, rfl, rfl, rfl, rfl, congrArg (fun x => some (Value.bool x)) (by rw [q1, q2]; rfl), trivial⟩⟩
   rintro e L' s' ⟨rfl, rfl, hs⟩
   refine Sm.weak _ hs ?_
   clear hs
   refine Sm.ofW ?_
   conv => whnf
   cases hbad : badLn x with
   | true =>
     repeat (first | (refine Br.yes hbad ?_; conv => whnf) | ((first | refine Br.y1 ?_ | refine Br.n1 ?_); conv => whnf))
     refine ⟨hp.fr, ?_⟩
     have : ls.any badLn = true := List.any_eq_true.2 ⟨x, hmem, hbad⟩
     unfold printL
     rw [if_pos this]; rfl
   | false =>
     repeat (first | (refine Br.no hbad ?_; conv => whnf) | ((first | refine Br.y1 ?_ | refine Br.n1 ?_); conv => whnf))
     have hb2 := hbad
     unfold badLn at hb2
     simp only [Bool.or_eq_false_iff, decide_eq_false_iff_not] at hb2
     obtain ⟨h1, h2, h3⟩ := hb2
     obtain ⟨k, hk⟩ : ∃ k : Nat, x.acct = k := ⟨x.acct.toNat, by omega⟩
     have hk1 : k < 100 := by have := hm.acct; omega
     have hil := itoa_le k
     refine Sm.seqW ?_
     conv => whnf
     refine hp.load (v := .int .i64 x.acct) .d (by rfl) rfl rfl rfl ?_
     conv => whnf
     rw [hk]
     refine (itoa2_spec _ hk1).mono ?_
     rintro _ s1 ⟨h1, rfl⟩
     obtain rfl := h1.symm
     conv => whnf
     refine Om.of _ (sv_add (itoaF k) [58] (by simp; omega)) ?_
     conv => whnf
     refine Om.of _ (sv_add (itoaF k ++ [58]) (printF x.amt) (by simp; omega)) ?_
     conv => whnf
     refine Sm.live [3, 5, 7, 8, 9, 10] ?_
     conv => whnf
     refine Sm.seqC (fun e' L' s'' => e' = .normal ∧ s'' = s' ∧ Sub [(3, vo), (7, sv (lineT x)), (8, .slice a ls.length cp), (9, .int .i64 ((ls.length : Nat) : Int)), (10, .int .i64 (i : Int))] L') ?_ ?_
     · conv => whnf
       refine hp.load (v := .int .i64 x.wth) .d (by rfl) rfl rfl rfl ?_
       conv => whnf
       by_cases hw0 : 0 ≤ x.wth
       · have q1 : decide (x.wth ≥ 0) = true := decide_eq_true hw0
         obtain ⟨j, hj⟩ : ∃ j : Nat, x.wth = j := ⟨x.wth.toNat, by omega⟩
         have hj1 : j < 100 := by have := hm.wth; omega
         have hjl := itoa_le j
         repeat (first | (refine Br.yes q1 ?_; conv => whnf) | ((first | refine Br.y1 ?_ | refine Br.n1 ?_); conv => whnf))
         refine hp.load (v := .int .i64 x.wth) .d (by rfl) rfl rfl rfl ?_
         conv => whnf
         rw [hj]
         refine (itoa2_spec _ hj1).mono ?_
         rintro _ s1 ⟨h1, rfl⟩
         obtain rfl := h1.symm
         conv => whnf
         refine Om.of _ (sv_add [64] (itoaF j) (by simp; omega)) ?_
         conv => whnf
         refine Om.of _ (sv_add (itoaF k ++ [58] ++ printF x.amt) ([64] ++ itoaF j) (by simp; omega)) ?_
         conv => whnf
         exact ⟨rfl, rfl, subK_ok ⟨rfl, congrArg (fun x => some (sv x)) (by unfold lineT; rw [if_pos hw0, hk, hj]; simp), rfl, rfl, rfl, trivial⟩⟩
       · have q1 : decide (x.wth ≥ 0) = false := decide_eq_false hw0
         repeat (first | (refine Br.no q1 ?_; conv => whnf) | ((first | refine Br.y1 ?_ | refine Br.n1 ?_); conv => whnf))
         exact ⟨rfl, rfl, subK_ok ⟨rfl, congrArg (fun x => some (sv x)) (by unfold lineT; rw [if_neg hw0, hk]; simp), rfl, rfl, rfl, trivial⟩⟩
     rintro e L' s' ⟨rfl, rfl, hs⟩
     refine Sm.weak _ hs ?_
     clear hs
     refine Sm.ofW ?_
     conv => whnf
     refine hp.lit (cs := [sv (lineT x)]) (e := 1) (by rfl) ?_
     clear hp
     intro b4 s4 hp _
     conv => whnf
     have x4 := hp.blkSl (n := 1) (C := [sv (lineT x)]) (k := b4) (b := b4) (e := 1) .d rfl
     refine hp.app SG Tryz.underlying95 rfl (κ := κo) (v := vo) .d (elems_sl x4) rfl rfl (by omega) ?_
     clear hp x4
     intro v5 κ5 s hp
     have e1 : ((ls.take i).map fun y => sv (lineT y)) ++ [sv (lineT x)] = (ls.take (i + 1)).map fun y => sv (lineT y) := by
      rw [htk, List.map_append]; rfl
     rw [e1] at hp
     conv => whnf
     refine Sm.ofW ?_
     conv => whnf
     exact ⟨(i + 1, κ5, v5), by (show ls.length - (i + 1) < ls.length - i); omega, subK_ok (by refine ⟨rfl, rfl, rfl, congrArg (fun x => some (Value.int .i64 x)) (show IntKind.i64.wrap ((i : Int) + 1) = ((i + 1 : Nat) : Int) by rw [wi64 (by omega) (by omega)]; omega), trivial⟩), by (show i + 1 ≤ ls.length); omega, by (show (ls.take (i + 1)).any badLn = false); rw [htk, List.any_append, hno]; simp [hbad], hp.pik (by repeat (first | exact Pik.nil | exact Pik.refl _ | exact Rm.here | apply Rm.there | apply Pik.cons | apply Pik.skip))⟩
 · have hc : i = ls.length := by have : ¬ (i : Int) < ((ls.length : Nat) : Int) := of_decide_eq_false hc; omega
   subst hc
   rw [List.take_length] at hno hp
   have hjl := lines_le ls
   conv => whnf
   refine Sm.seqW ?_
   conv => whnf
   have hso : Sl s κo vo 1 (ls.map lineT).length ((ls.map lineT).map sv) := by
    rw [List.length_map, List.map_map]
    exact hp.slF .d
   refine hp.call (sjoin_spec hp.wf hso 44 (by omega)) ?_
   clear hp
   rintro _ s rfl hp _
   conv => whnf
   refine Sm.live [2] ?_
   conv => whnf
   refine Sm.ofW ?_
   conv => whnf
   refine ⟨hp.fr, ?_⟩
   unfold printL
   rw [if_neg (by rw [hno]; decide)]; rfl
end

/- entry.Right walked. No condition. -/
section
variable [Lk]
end

/- Raw numbers as lines, walked. No condition. -/
section
variable [Lk]
end

/- The document's Digits, Small, Needless and Cut walked. No condition. -/
section
variable [Lk]
end

/- The document's lines read, walked. No condition. -/
section
variable [Lk]
end

/- The document's lines read, printed and turned, walked. No condition. -/
section
variable [Lk]
end

/- The document's lines printed, walked. No condition. -/
section
variable [Lk]
end

/- The document's law of lines, walked. No condition. -/
section
variable [Lk]
theorem index_amt {s : St} {κ : Option Nat} {v : Value} {l : List Ln} (h : Sln s κ v l) (k : IntKind) {i : Nat} (hi : i < l.length) :
  ∃ b off, evIndexAddr Tryz.prog 24 v (.int k (i : Int)) = some (.pointer (some ⟨b, off, none⟩)) ∧ evLoad Tryz.prog 29 (.pointer (some ⟨b, off + 1, none⟩)) s = some l[i].amt.val := by
 obtain ⟨j, hi1, hi2, hi3, hi4⟩ := LT.hi
 rcases h.ex with ⟨rfl, h0, _, _⟩ | ⟨b, off, c, C, rfl, hc, hl, hs, hm⟩
 · omega
 · have hr : s.rd b = some C := by
    rcases hm with ⟨k, _, hm⟩ | ⟨_, hm⟩
    · exact hm.rd
    · exact hm.rd
   refine ⟨b, off + i * 6, ?_, ?_⟩
   · show (match Tryz.prog.underlying 24, Value.slice (some ⟨b, off, none⟩) l.length c, Value.int k (.ofNat i) with
      | some (.slice e), .slice (some a) n _, .int _ (.ofNat i) => match Nat.blt i n, Tryz.prog.info? e with
        | true, some j => some (Value.pointer (some ⟨a.block, a.off + i * j.size, none⟩))
        | _, _ => none
      | some (.array n e), .pointer (some a), .int _ (.ofNat i) => match Nat.blt i n, Tryz.prog.info? e with
        | true, some j => some (Value.pointer (some ⟨a.block, a.off + i * j.size, none⟩))
        | _, _ => none
      | _, _, _ => none) = _
     rw [LT.hu]
     simp only [blt_of hi, hi1, hi2]
   · have hc : ((lnC l).drop (i * 6 + 1)).take 4 = l[i].amt.cells := by
      have := lnC_at hi
      rw [← List.drop_drop]
      have e : (List.drop 1 (List.drop (i * 6) (lnC l))).take 4 = (List.drop 1 ((List.drop (i * 6) (lnC l)).take 6)).take 4 := by
       rw [List.drop_take, List.take_take]; rfl
      rw [e, this]; rfl
     have := load_agg (P := Tryz.prog) (t := 29) (off := off + i * 6 + 1) Tryz.underlying29 (by rfl) hr (sl_sub (i := i * 6 + 1) (m := 4) hs (by omega))
     rw [hc] at this
     exact this
end

/- Lines that are alike; chapter 12's example. No condition. -/
section
variable [Lk]
theorem ln_e (a b : Ln) : evEq Tryz.prog 10000 35 a.val b.val = some (a.acct == b.acct && ((a.amt.neg == b.amt.neg && ((((a.amt.c % w64 : Nat) : Int) == ((b.amt.c % w64 : Nat) : Int) && ((a.amt.c / w64 : Nat) : Int) == ((b.amt.c / w64 : Nat) : Int)) && a.amt.scale == b.amt.scale)) && a.wth == b.wth)) := by
 obtain ⟨aa, ⟨an, ac, ae⟩, aw⟩ := a
 obtain ⟨ba, ⟨bn, bc, be⟩, bw⟩ := b
 have key : ∀ qa q1 q2 r qw : Bool, (aa == ba) = qa → (((ac % w64 : Nat) : Int) == ((bc % w64 : Nat) : Int)) = q1 → (((ac / w64 : Nat) : Int) == ((bc / w64 : Nat) : Int)) = q2 → (ae == be) = r → (aw == bw) = qw → evEq Tryz.prog 10000 35 (Ln.val ⟨aa, ⟨an, ac, ae⟩, aw⟩) (Ln.val ⟨ba, ⟨bn, bc, be⟩, bw⟩) = some (qa && ((an == bn && ((q1 && q2) && r)) && qw)) := by
  intro qa q1 q2 r qw h0 h1 h2 h3 h4
  cases an <;> cases bn
  all_goals first
   | (show (match (some (aa == ba) : Option Bool) with | some true => (match (match (match (some (((ac % w64 : Nat) : Int) == ((bc % w64 : Nat) : Int)) : Option Bool) with | some true => (match (some (((ac / w64 : Nat) : Int) == ((bc / w64 : Nat) : Int)) : Option Bool) with | some true => some true | some false => some false | none => none) | some false => some false | none => none) with | some true => (match (some (ae == be) : Option Bool) with | some true => some true | some false => some false | none => none) | some false => some false | none => none) with | some true => (match (some (aw == bw) : Option Bool) with | some true => some true | some false => some false | none => none) | some false => some false | none => none) | some false => some false | none => none) = _
      rw [h0, h1, h2, h3, h4]
      cases qa <;> cases q1 <;> cases q2 <;> cases r <;> cases qw <;> rfl)
   | (show (match (some (aa == ba) : Option Bool) with | some true => some false | some false => some false | none => none) = _
      rw [h0]
      cases qa <;> rfl)
 exact key _ _ _ _ _ rfl rfl rfl rfl rfl
def eqLn (a b : Ln) : Bool := a.acct == b.acct && (eqD a.amt b.amt && a.wth == b.wth)
theorem ln_ne (a b : Ln) (c : Bool) : evBin Tryz.prog .neq 35 c a.val b.val = some (.bool (!eqLn a b)) := by
 have hg : Tryz.prog.eqGuardType Tryz.prog.depth 35 = false := by decide +kernel
 show (match !(Tryz.prog.eqGuardType Tryz.prog.depth 35) with | false => none | true => (match evEq Tryz.prog 10000 35 a.val b.val with | some b => some (Value.bool (!b)) | none => none)) = _
 rw [hg, ln_e, words_eq]; rfl
theorem eqLn_self (a : Ln) : eqLn a a = true := by
 unfold eqLn eqD
 simp
theorem eqLn_iff {a b : Ln} : eqLn a b = true ↔ a = b := by
 constructor
 · intro h
   unfold eqLn eqD at h
   simp only [Bool.and_eq_true, beq_iff_eq, decide_eq_true_eq] at h
   obtain ⟨aa, ⟨an, ac, ae⟩, aw⟩ := a
   obtain ⟨ba, ⟨bn, bc, be⟩, bw⟩ := b
   simp only at h
   obtain ⟨h1, ⟨h2, h3, h4⟩, h5⟩ := h
   subst h1 h2 h3 h4 h5
   rfl
 · rintro rfl; exact eqLn_self a
end

/- EntryLimits walked. No condition. -/
section
variable [Lk]
end

/- EntryBack walked. No condition. -/
section
variable [Lk]
instance lnDec : DecidableEq Ln := fun a b => decidable_of_iff (eqLn a b = true) eqLn_iff
end

/- EntryEven walked. No condition. -/
section
variable [Lk]
end

/- EntryKnown walked. No condition. -/
section
variable [Lk]
theorem oneF_c (t : List UInt8) : (oneF t).1.amt.c < w128 := by
 unfold oneF
 simp only
 split
 · decide
 · split
   · decide
   · exact readD_c _
theorem readL_c (l : List UInt8) : ∀ x ∈ (readL l).1, x.amt.c < w128 := by
 unfold readL
 split
 · simp
 · split
   · simp
   · split
     · simp
     · intro x hx
       obtain ⟨t, _, rfl⟩ := List.mem_map.1 hx
       exact oneF_c t
end

/- Commands: numbers, verbs, their shapes. No condition. -/
section
variable [Lk]
theorem cnumber_spec {z : St} (wf : WF z) (hg : Gs z) (l : List UInt8) (hl : l.length ≤ 281474976710656) :
  Cw Tryz.prog 119 [sv l] z fun r s' => K0 z s' ∧ ∃ n : Int, r = .tuple #[.int .i64 n, .bool (decide (¬ smallF l < 0))] ∧ (¬ smallF l < 0 → n = smallF l) := by
 have hp : Hp (fun _ => False) z [] [] z := Hp.start _ wf _ (by simp)
 refine Cw.enterS Tryz.func119 rfl rfl ?_
 refine Sm.seqW ?_
 conv => whnf
 refine Sm.live [0] ?_
 conv => whnf
 refine Sm.seqW ?_
 conv => whnf
 refine hp.call (atoi2_spec hp.wf hg l hl) ?_
 clear hp
 rintro _ s ⟨n, e, rfl, hn, he, hk⟩ hp _
 have fin : ∀ b : Bool, (b = true ↔ ∃ j, j < 100 ∧ l = itoaF j) → (∃ n' : Int, Value.tuple #[.int .i64 n, .bool b] = .tuple #[.int .i64 n', .bool (decide (¬ smallF l < 0))] ∧ (¬ smallF l < 0 → n' = smallF l)) := by
  intro b hb
  have e1 : b = decide (¬ smallF l < 0) := by rw [Bool.eq_iff_iff, hb, decide_eq_true_iff]; exact small_iff.symm
  refine ⟨n, by rw [e1], fun h => ?_⟩
  obtain ⟨k, h1, h2, h3⟩ := smallF_ok h
  rw [h3]; exact (hk k h1 h2).1
 conv => whnf
 refine Sm.live [0, 4, 5] ?_
 conv => whnf
 refine Sm.seqW ?_
 conv => whnf
 rcases he with rfl | ⟨v, rfl⟩
 · refine Om.of (.bool true) (by kernel_rfl) ?_
   conv => whnf
   by_cases h1 : 0 ≤ n
   · have q1 : decide (n ≥ 0) = true := decide_eq_true h1
     by_cases h2 : n < 100
     · have q2 : decide (n < 100) = true := decide_eq_true h2
       obtain ⟨k, rfl⟩ : ∃ k : Nat, n = k := ⟨n.toNat, by omega⟩
       repeat (first | (refine Br.yes q1 ?_; conv => whnf) | (refine Br.yes q2 ?_; conv => whnf) | ((first | refine Br.y1 ?_ | refine Br.n1 ?_); conv => whnf))
       refine (itoa2_spec _ (show k < 100 by omega)).mono ?_
       rintro _ s1 ⟨h1, rfl⟩
       obtain rfl := h1.symm
       conv => whnf
       repeat (first | (refine Br.yes q1 ?_; conv => whnf) | (refine Br.yes q2 ?_; conv => whnf) | ((first | refine Br.y1 ?_ | refine Br.n1 ?_); conv => whnf))
       refine Om.of _ (sv_eq (itoaF k) l) ?_
       conv => whnf
       repeat (first | (refine Br.yes q1 ?_; conv => whnf) | (refine Br.yes q2 ?_; conv => whnf) | ((first | refine Br.y1 ?_ | refine Br.n1 ?_); conv => whnf))
       refine Sm.live [2, 3] ?_
       conv => whnf
       refine Sm.ofW ?_
       conv => whnf
       refine ⟨hp.fr, fin _ ?_⟩
       rw [beq_iff_eq]
       constructor
       · intro h; exact ⟨k, by omega, h.symm⟩
       · rintro ⟨j, h3, h4⟩
         have := (hk j h3 h4).1
         have : k = j := Int.ofNat.inj this
         subst this
         exact h4.symm
     · have q2 : decide (n < 100) = false := decide_eq_false h2
       repeat (first | (refine Br.yes q1 ?_; conv => whnf) | (refine Br.no q2 ?_; conv => whnf) | ((first | refine Br.y1 ?_ | refine Br.n1 ?_); conv => whnf))
       refine Sm.live [2, 3] ?_
       conv => whnf
       refine Sm.ofW ?_
       conv => whnf
       exact ⟨hp.fr, fin _ ⟨fun h => (by cases h), fun ⟨j, h3, h4⟩ => by have := (hk j h3 h4).1; omega⟩⟩
   · have q1 : decide (n ≥ 0) = false := decide_eq_false h1
     repeat (first | (refine Br.no q1 ?_; conv => whnf) | ((first | refine Br.y1 ?_ | refine Br.n1 ?_); conv => whnf))
     refine Sm.live [2, 3] ?_
     conv => whnf
     refine Sm.ofW ?_
     conv => whnf
     exact ⟨hp.fr, fin _ ⟨fun h => (by cases h), fun ⟨j, h3, h4⟩ => by have := (hk j h3 h4).1; omega⟩⟩
 · refine Om.of (.bool false) (by rfl) ?_
   conv => whnf
   repeat ((first | refine Br.y1 ?_ | refine Br.n1 ?_); conv => whnf)
   refine Sm.live [2, 3] ?_
   conv => whnf
   refine Sm.ofW ?_
   conv => whnf
   exact ⟨hp.fr, fin _ ⟨fun h => (by cases h), fun ⟨j, h3, h4⟩ => by have := (hk j h3 h4).2; cases this⟩⟩
def tailF (v : Int) : Bool := v == 1 || (v == 5 || v == 9)
theorem tailed_spec (s : St) (v : Int) : Cw Tryz.prog 77 [.int .i64 v] s fun r s' => s' = s ∧ r = .bool (tailF v) := by
 refine Cw.enterS Tryz.func77 rfl rfl ?_
 refine Sm.seqW ?_
 conv => whnf
 refine Sm.live [0] ?_
 conv => whnf
 refine Sm.ofW ?_
 conv => whnf
 repeat' (first | (refine Br.yes (by first | with_reducible rfl | with_reducible assumption) ?_; conv => whnf) | (refine Br.no (by first | with_reducible rfl | with_reducible assumption) ?_; conv => whnf) | (refine Br.mk (fun hq => ?_) (fun hq => ?_) <;> conv => whnf))
 all_goals refine ⟨rfl, congrArg Value.bool ?_⟩
 all_goals unfold tailF
 all_goals first | (simp_all; done) | (rw [‹(v == 1) = false›, ‹(v == 5) = false›]; rfl)
def shpL : List (List UInt8 × Nat) := [([112, 111, 115, 116], 2), ([114, 101, 118, 101, 114, 115, 101], 3), ([99, 108, 111, 115, 101], 2), ([114, 101, 111, 112, 101, 110], 2), ([114, 97, 116, 101], 3), ([116, 114, 105, 97, 108], 2), ([99, 111, 110, 115, 111, 108], 2), ([109, 97, 116, 99, 104], 2), ([113, 117, 101, 114, 121], 0), ([114, 101, 108, 101, 97, 115, 101], 2), ([114, 101, 108, 101, 97, 115, 101, 100], 0), ([99, 104, 97, 105, 110], 1), ([103, 114, 111, 117, 112], 1)]
def shC (x : List UInt8 × Nat) : List Value := [sv x.1, .int .i64 (x.2 : Int)]
def shV (x : List UInt8 × Nat) : Value := .agg #[sv x.1, .int .i64 (x.2 : Int)]
def shape (v : Int) : (List UInt8 × Nat) × Bool := if v < 1 ∨ 14 ≤ v then (([], 0), false) else (shpL.getD (v - 1).toNat ([], 0), true)
theorem SHT : SlT Tryz.prog 174 111 2 24 (shV ([], 0)) := ⟨Tryz.underlying174, ⟨_, rfl, rfl, rfl, rfl⟩, rfl, rfl, by decide, by decide⟩
theorem shapeOf_spec {z : St} (wf : WF z) (v : Int) : Cw Tryz.prog 80 [.int .i64 v] z fun r s' => K0 z s' ∧ r = .tuple #[shV (shape v).1, .bool (shape v).2] := by
 have hp : Hp (fun _ => False) z [] [] z := Hp.start _ wf _ (by simp)
 refine Cw.enterS Tryz.func80 rfl rfl ?_
 refine Sm.seqW ?_
 conv => whnf
 refine hp.alloc (cs := shC ([], 0)) (e := 2) rfl rfl rfl rfl rfl ?_
 clear hp
 intro p2 s hp _
 conv => whnf
 refine Sm.live [0, 2] ?_
 conv => whnf
 refine Sm.seqW ?_
 conv => whnf
 refine hp.lit (cs := shpL.flatMap shC) (e := 2) (by rfl) ?_
 clear hp
 intro b4 s hp _
 conv => whnf
 refine Sm.live [0, 2, 4] ?_
 conv => whnf
 refine Sm.seq ?_
 refine Sm.seqC (fun e' L' s' => e' = .normal ∧ s' = s ∧ Sub [(0, .int .i64 v), (2, .pointer (some ⟨p2, 0, none⟩)), (4, .slice (some ⟨b4, 0, none⟩) 13 13), (24, .bool (decide (v < 1 ∨ 14 ≤ v)))] L') ?_ ?_
 · conv => whnf
   by_cases h1 : v < 1
   · have q1 : decide (v < 1) = true := decide_eq_true h1
     repeat (first | (refine Br.yes q1 ?_; conv => whnf) | ((first | refine Br.y1 ?_ | refine Br.n1 ?_); conv => whnf))
     exact ⟨rfl, rfl, subK_ok ⟨rfl, rfl, rfl, congrArg (fun x => some (Value.bool x)) (decide_eq_true (.inl h1)).symm, trivial⟩⟩
   · have q1 : decide (v < 1) = false := decide_eq_false h1
     repeat (first | (refine Br.no q1 ?_; conv => whnf) | ((first | refine Br.y1 ?_ | refine Br.n1 ?_); conv => whnf))
     exact ⟨rfl, rfl, subK_ok ⟨rfl, rfl, rfl, congrArg (fun x => some (Value.bool x)) (decide_eq_decide.2 ⟨fun h => .inr h, fun h => h.resolve_left h1⟩), trivial⟩⟩
 rintro e L' s' ⟨rfl, rfl, hs⟩
 refine Sm.weak _ hs ?_
 clear hs
 refine Sm.ofW ?_
 conv => whnf
 unfold shape
 by_cases h : v < 1 ∨ 14 ≤ v
 · rw [if_pos h]
   refine Br.yes (decide_eq_true h) ?_
   conv => whnf
   refine hp.storeW (vs := shC ([], 0)) rfl .d csx rfl rfl rfl ?_
   clear hp
   intro s hp _
   conv => whnf
   refine hp.loadA (l := shC ([], 0)) .d rfl (by rfl) rfl rfl ?_
   conv => whnf
   exact ⟨hp.fr, rfl⟩
 · rw [if_neg h]
   refine Br.no (decide_eq_false h) ?_
   conv => whnf
   refine Sm.seqW ?_
   conv => whnf
   obtain ⟨k, hk⟩ : ∃ k : Nat, v - 1 = k := ⟨(v - 1).toNat, by omega⟩
   have hk2 : k < 13 := by omega
   rw [wi64 (n := v - 1) (by omega) (by omega), hk]
   refine Om.of _ (idx_at (P := Tryz.prog) SHT (b := b4) (off := 0) (c := 13) (n := 13) .i64 hk2) ?_
   conv => whnf
   have hC : (Go.Ev.sl (shpL.flatMap shC) (0 + k * 2) 2) = some (shC (shpL.getD k ([], 0))) := by
    have h7 : k = 0 ∨ k = 1 ∨ k = 2 ∨ k = 3 ∨ k = 4 ∨ k = 5 ∨ k = 6 ∨ k = 7 ∨ k = 8 ∨ k = 9 ∨ k = 10 ∨ k = 11 ∨ k = 12 := by omega
    rcases h7 with rfl | rfl | rfl | rfl | rfl | rfl | rfl | rfl | rfl | rfl | rfl | rfl | rfl <;> rfl
   refine hp.loadA (l := shC (shpL.getD k ([], 0))) .d rfl hC rfl rfl ?_
   conv => whnf
   refine hp.storeW (vs := shC (shpL.getD k ([], 0))) rfl .d csx rfl rfl rfl ?_
   clear hp
   intro s hp _
   conv => whnf
   refine Sm.live [2, 3] ?_
   conv => whnf
   refine Sm.ofW ?_
   conv => whnf
   refine hp.loadA (l := shC (shpL.getD k ([], 0))) .d rfl (by rfl) rfl rfl ?_
   conv => whnf
   exact ⟨hp.fr, rfl⟩
def verbF (w : List UInt8) : Nat → Nat → Nat
 | 0, _ => 0
 | n + 1, k => if (shape (k : Int)).1.1 = w then k else verbF w n (k + 1)
def verbN (w : List UInt8) : Nat := verbF w 13 1
theorem verb_spec {z : St} (wf : WF z) (w : List UInt8) : Cw Tryz.prog 75 [sv w] z fun r s' => K0 z s' ∧ r = .tuple #[.int .i64 (verbN w : Int), shV (shape (verbN w)).1] := by
 have hp : Hp (fun _ => False) z [] [] z := Hp.start _ wf _ (by simp)
 refine Cw.enterS Tryz.func75 rfl rfl ?_
 refine Sm.seqW ?_
 conv => whnf
 refine hp.alloc (cs := shC ([], 0)) (e := 2) rfl rfl rfl rfl rfl ?_
 clear hp
 intro p3 s hp _
 conv => whnf
 refine Sm.live [0, 3] ?_
 conv => whnf
 refine Sm.seq ?_
 refine Sm.seqW ?_
 conv => whnf
 refine Sm.live [0, 3, 4] ?_
 conv => whnf
 refine Sm.block ?_
 refine Sm.loop ?_
 refine Lp.ofS (α := Nat) (fun i => [(0, sv w), (3, .pointer (some ⟨p3, 0, none⟩)), (4, .int .i64 ((i + 1 : Nat) : Int))])
  (fun i s' => i ≤ 13 ∧ verbN w = verbF w (13 - i) (i + 1) ∧ Hp (fun _ => False) z [] [blkA p3 p3 (shC ([], 0)) 2] s') (fun i => 13 - i) ?_ 0 (subK_ok (by refine ⟨rfl, rfl, rfl, trivial⟩)) ⟨Nat.zero_le _, rfl, hp⟩
 clear hp
 rintro i s ⟨hi, hv, hp⟩
 refine Sm.seq ?_
 refine Sm.seqW ?_
 conv => whnf
 refine Sm.live [0, 3, 4, 8] ?_
 conv => whnf
 refine Sm.ofW ?_
 conv => whnf
 refine Br.mk (fun hc => ?_) (fun hc => ?_)
 · have hc : i < 13 := by have : ((i + 1 : Nat) : Int) < 14 := of_decide_eq_true hc; omega
   rw [show 13 - i = (12 - i) + 1 by omega, verbF] at hv
   conv => whnf
   refine Sm.seq ?_
   refine Sm.block ?_
   refine Sm.seqW ?_
   conv => whnf
   refine hp.call (shapeOf_spec hp.wf ((i + 1 : Nat) : Int)) ?_
   clear hp
   rintro _ s rfl hp _
   conv => whnf
   refine hp.alloc (cs := shC ([], 0)) (e := 2) rfl rfl rfl rfl rfl ?_
   clear hp
   intro p5 s hp _
   conv => whnf
   refine hp.storeW (vs := shC (shape ((i + 1 : Nat) : Int)).1) rfl .d csx rfl rfl rfl ?_
   clear hp
   intro s hp _
   conv => whnf
   refine Sm.live [0, 3, 4, 5] ?_
   conv => whnf
   refine Sm.seqW ?_
   conv => whnf
   refine hp.load (v := sv (shape ((i + 1 : Nat) : Int)).1.1) .d (by rfl) rfl rfl rfl ?_
   conv => whnf
   refine Om.of _ (sv_eq (shape ((i + 1 : Nat) : Int)).1.1 w) ?_
   conv => whnf
   refine Sm.live [0, 3, 4, 5, 19] ?_
   conv => whnf
   refine Sm.ofW ?_
   conv => whnf
   by_cases hw : (shape ((i + 1 : Nat) : Int)).1.1 = w
   · rw [if_pos hw] at hv
     refine Br.yes (beq_iff_eq.2 hw) ?_
     conv => whnf
     refine ⟨[0, 0, 1, 7], by decide +kernel, by decide +kernel, ?_⟩
     conv => whnf
     refine hp.loadA (l := shC (shape ((i + 1 : Nat) : Int)).1) .d rfl (by rfl) rfl rfl ?_
     conv => whnf
     refine hp.rst.storeW (vs := shC (shape ((i + 1 : Nat) : Int)).1) rfl .d csx rfl rfl rfl ?_
     intro s1 h1 l1
     conv => whnf
     refine hp.dkW h1 l1 ?_
     clear hp h1 l1
     intro s hp
     conv => whnf
     refine hp.loadA (l := shC (shape ((i + 1 : Nat) : Int)).1) .d rfl (by rfl) rfl rfl ?_
     conv => whnf
     exact ⟨hp.fr, by rw [hv]; rfl⟩
   · rw [if_neg hw] at hv
     refine Br.no (beq_eq_false_iff_ne.2 hw) ?_
     conv => whnf
     refine Sm.ofW ?_
     conv => whnf
     exact ⟨i + 1, by (show 13 - (i + 1) < 13 - i); omega, subK_ok (by refine ⟨rfl, rfl, congrArg (fun x => some (Value.int .i64 x)) (show IntKind.i64.wrap (((i + 1 : Nat) : Int) + 1) = ((i + 1 + 1 : Nat) : Int) by rw [wi64 (by omega) (by omega)]; omega), trivial⟩), by omega, by rw [hv, show 12 - i = 13 - (i + 1) by omega], hp.pik (by repeat (first | exact Pik.nil | exact Pik.refl _ | exact Rm.here | apply Rm.there | apply Pik.cons | apply Pik.skip))⟩
 · have hc : i = 13 := by have : ¬ ((i + 1 : Nat) : Int) < 14 := of_decide_eq_false hc; omega
   subst hc
   have hv : verbN w = 0 := hv
   rw [hv]
   conv => whnf
   refine Sm.seqW ?_
   conv => whnf
   refine hp.storeW (vs := shC ([], 0)) rfl .d csx rfl rfl rfl ?_
   clear hp
   intro s hp _
   conv => whnf
   refine Sm.live [2, 3] ?_
   conv => whnf
   refine Sm.ofW ?_
   conv => whnf
   refine hp.loadA (l := shC ([], 0)) .d rfl (by rfl) rfl rfl ?_
   conv => whnf
   exact ⟨hp.fr, rfl⟩
end

/- Commands: the numbers of a text. No condition. -/
section
variable [Lk]
theorem PTR : SlT Tryz.prog 171 172 1 8 (.pointer none) := ⟨Tryz.underlying171, ⟨_, rfl, rfl, rfl, rfl⟩, rfl, rfl, by decide, by decide⟩
theorem slice_ptr {s : St} {k b : Nat} {C : List Value} (hb : Blk s k b C 1) {c : Nat} (hc : c ≤ 3) : evSliceMem Tryz.prog 171 (.slice (some ⟨b, 0, none⟩) 3 3) none (some (.int .i64 (c : Int))) none s = some (.slice (some ⟨b, 0, none⟩) c 3) := by
 obtain ⟨i, h1, h2, h3, h4⟩ := PTR.hi
 unfold evSliceMem
 rw [PTR.hu]
 simp only [h1, hb.esz, h2]
 have h : c = 0 ∨ c = 1 ∨ c = 2 ∨ c = 3 := by omega
 rcases h with rfl | rfl | rfl | rfl <;> rfl
def cmC (v a b c : Int) (T : List Value) : List Value := .int .i64 v :: .int .i64 a :: .int .i64 b :: .int .i64 c :: T
def numsF : Nat → List UInt8 → Bool → Option (List Int × List UInt8 × Bool)
 | 0, r, q => some ([], r, q)
 | n + 1, r, q => if q = false ∨ smallF (cut1 32 r) < 0 then none else (numsF n (cut2 32 r) (cutQ 32 r)).map fun x => (smallF (cut1 32 r) :: x.1, x.2)
def numsV : Option (List Int × List UInt8 × Bool) → Value
 | none => .tuple #[sv [], .bool false, .bool false]
 | some x => .tuple #[sv x.2.1, .bool x.2.2, .bool true]
theorem cm_set {v m : Int} {T : List Value} : ∀ {L : List Int}, L.length < 3 → (cmC v (L.getD 0 0) (L.getD 1 0) (L.getD 2 0) T).set (L.length + 1) (.int .i64 m) = cmC v ((L ++ [m]).getD 0 0) ((L ++ [m]).getD 1 0) ((L ++ [m]).getD 2 0) T
 | [], _ => rfl
 | [x], _ => rfl
 | [x, y], _ => rfl
 | x :: y :: z :: r, h => by simp only [List.length_cons] at h; omega
section
variable {X : Nat → Prop} {s0 s s' : St} {R F G H : List At} {p : Nat}
theorem numbers_spec (hp : Hp X s0 R F s) (hg : Gs s0) {v : Int} {T : List Value} (hT : T.length = 6) (h1 : Rm (blkA p p (cmC v 0 0 0 T) 10) F G) (r : List UInt8) (hr : r.length ≤ 10000000000000) (q : Bool) {n : Nat} (hn : n ≤ 3) {K : Value → St → Prop}
  (hK : ∀ a b c s', Hp X s0 R (blkA p p (cmC v a b c T) 10 :: G) s' → (∀ x, numsF n r q = some x → a = x.1.getD 0 0 ∧ b = x.1.getD 1 0 ∧ c = x.1.getD 2 0) → K (numsV (numsF n r q)) s') :
  Cw Tryz.prog 76 [.pointer (some ⟨p, 0, none⟩), sv r, .bool q, .int .i64 (n : Int)] s K := by
 replace hp : Hp X s0 R (blkA p p (cmC v 0 0 0 T) 10 :: G) s := hp.pik (.cons h1 (.refl _))
 clear h1
 refine Cw.enterS Tryz.func76 rfl rfl ?_
 refine Sm.seqW ?_
 conv => whnf
 refine Sm.live [0, 1, 2, 3] ?_
 conv => whnf
 refine Sm.seq ?_
 refine Sm.seqW ?_
 conv => whnf
 refine ⟨[0, 1, 3, 0, 8, 24, 0, 64, 192, 511, 0, 2047, 4095, 0], by decide +kernel, by decide +kernel, ?_⟩
 conv => whnf
 refine hp.rst.lit (cs := [.pointer (some ⟨p, 1, none⟩), .pointer (some ⟨p, 2, none⟩), .pointer (some ⟨p, 3, none⟩)]) (e := 1) (by rfl) ?_
 intro b s1 h1 k1
 conv => whnf
 refine hp.dkN h1 k1 ?_
 clear hp h1 k1
 intro s hp
 conv => whnf
 refine Om.of _ (slice_ptr (hp.at (show Has (blkA b b _ 1) _ _ by repeat constructor)) hn) ?_
 conv => whnf
 try (refine ⟨Hp.saN, ?_⟩; (conv => whnf))
 refine Sm.live [1, 2, 27, 28, 29] ?_
 conv => whnf
 refine Sm.block ?_
 refine Sm.loop ?_
 refine Lp.ofS (α := List Int × List UInt8 × Bool) (fun x => [(1, sv x.2.1), (2, .bool x.2.2), (27, .slice (some ⟨b, 0, none⟩) n 3), (28, .int .i64 (n : Int)), (29, .int .i64 (x.1.length : Int))])
  (fun x s' => x.1.length ≤ n ∧ x.2.1.length ≤ r.length ∧ numsF n r q = (numsF (n - x.1.length) x.2.1 x.2.2).map (fun y => (x.1 ++ y.1, y.2)) ∧ Hp X s0 R (blkA b b [.pointer (some ⟨p, 1, none⟩), .pointer (some ⟨p, 2, none⟩), .pointer (some ⟨p, 3, none⟩)] 1 :: blkA p p (cmC v (x.1.getD 0 0) (x.1.getD 1 0) (x.1.getD 2 0) T) 10 :: G) s') (fun x => n - x.1.length) ?_ ([], r, q) (subK_ok (by refine ⟨rfl, rfl, rfl, rfl, rfl, trivial⟩)) ⟨Nat.zero_le _, Nat.le_refl _, by simp, hp⟩
 clear hp
 rintro ⟨L, r1, q1⟩ s ⟨hi, hr1, hnum, hp⟩
 simp only at hi hr1 hnum hp
 refine Sm.seqW ?_
 conv => whnf
 refine Sm.live [1, 2, 27, 28, 29, 30] ?_
 conv => whnf
 refine Sm.seq ?_
 refine Sm.ofW ?_
 conv => whnf
 refine Br.mk (fun hc => ?_) (fun hc => ?_)
 · have hc : L.length < n := by have : (L.length : Int) < (n : Int) := of_decide_eq_true hc; omega
   rw [show n - L.length = (n - (L.length + 1)) + 1 by omega, numsF] at hnum
   have hcell : ([.pointer (some ⟨p, 1, none⟩), .pointer (some ⟨p, 2, none⟩), .pointer (some ⟨p, 3, none⟩)] : List Value)[0 + L.length * 1]? = some (.pointer (some ⟨p, L.length + 1, none⟩)) := by
    have h : L.length = 0 ∨ L.length = 1 ∨ L.length = 2 := by omega
    rcases h with h | h | h <;> rw [h] <;> rfl
   conv => whnf
   refine Sm.seq ?_
   refine Sm.block ?_
   refine Sm.seqW ?_
   conv => whnf
   refine Om.of _ (idx_at (P := Tryz.prog) PTR (b := b) (off := 0) (c := 3) (n := n) .i64 hc) ?_
   conv => whnf
   refine hp.load (v := .pointer (some ⟨p, L.length + 1, none⟩)) .d hcell rfl rfl rfl ?_
   conv => whnf
   refine Sm.live [1, 2, 12, 27, 28, 29] ?_
   conv => whnf
   refine Sm.seq ?_
   refine Sm.seqW ?_
   conv => whnf
   refine Sm.live [1, 12, 27, 28, 29, 34] ?_
   conv => whnf
   refine Sm.ofW ?_
   conv => whnf
   cases q1 with
   | false =>
     repeat ((first | refine Br.y1 ?_ | refine Br.n1 ?_); conv => whnf)
     rw [if_pos (.inl rfl)] at hnum
     have hnum : numsF n r q = none := hnum
     have hK := hK _ _ _ _ (hp.pik (by repeat (first | exact Pik.nil | exact Pik.refl _ | exact Rm.here | apply Rm.there | apply Pik.cons | apply Pik.skip))) (fun x hx => by rw [hnum] at hx; cases hx)
     rw [hnum] at hK
     exact ⟨hK⟩
   | true =>
     repeat ((first | refine Br.y1 ?_ | refine Br.n1 ?_); conv => whnf)
     refine Sm.seqW ?_
     conv => whnf
     refine Sm.live [1, 12, 27, 28, 29] ?_
     conv => whnf
     refine Sm.seqW ?_
     conv => whnf
     refine (cut_spec _ r1 (by omega) 32).mono ?_
     rintro _ s1 ⟨h1, rfl⟩
     obtain rfl := h1.symm
     conv => whnf
     rw [cut_val]
     conv => whnf
     refine Sm.live [1, 2, 12, 13, 27, 28, 29] ?_
     conv => whnf
     refine Sm.seqW ?_
     conv => whnf
     have hlen := cut1_len 32 r1
     have hlen2 := cut2_len 32 r1
     refine hp.call (cnumber_spec hp.wf (hg.keep hp.fr) (cut1 32 r1) (by omega)) ?_
     clear hp
     rintro _ s ⟨m, rfl, hm⟩ hp _
     conv => whnf
     refine Sm.live [1, 2, 12, 14, 15, 27, 28, 29] ?_
     conv => whnf
     refine Sm.seq ?_
     refine Sm.seqW ?_
     conv => whnf
     refine Sm.live [1, 2, 12, 14, 27, 28, 29, 47] ?_
     conv => whnf
     refine Sm.ofW ?_
     conv => whnf
     by_cases hsm : smallF (cut1 32 r1) < 0
     · rw [if_pos (.inr hsm)] at hnum
       have hnum : numsF n r q = none := hnum
       have hK := hK _ _ _ _ (hp.pik (by repeat (first | exact Pik.nil | exact Pik.refl _ | exact Rm.here | apply Rm.there | apply Pik.cons | apply Pik.skip))) (fun x hx => by rw [hnum] at hx; cases hx)
       rw [hnum] at hK
       refine Br.yes (by rw [decide_eq_false (fun h => h hsm)]; rfl) ?_
       conv => whnf
       exact ⟨hK⟩
     · rw [if_neg (fun h => h.elim (by decide) hsm)] at hnum
       have hm := hm hsm
       subst hm
       refine Br.no (by rw [decide_eq_true hsm]; rfl) ?_
       conv => whnf
       refine Sm.ofW ?_
       conv => whnf
       refine hp.store (v := .int .i64 (smallF (cut1 32 r1))) (off := L.length + 1) .d (by show L.length + 1 < T.length + 4; omega) rfl rfl rfl rfl ?_
       clear hp
       intro s hp _
       rw [cm_set (show L.length < 3 by omega)] at hp
       conv => whnf
       refine Sm.ofW ?_
       conv => whnf
       exact ⟨(L ++ [smallF (cut1 32 r1)], cut2 32 r1, cutQ 32 r1), by (show n - (L ++ [smallF (cut1 32 r1)]).length < n - L.length); rw [List.length_append]; simp; omega, subK_ok (by refine ⟨rfl, rfl, rfl, rfl, congrArg (fun x => some (Value.int .i64 x)) (show IntKind.i64.wrap ((L.length : Int) + 1) = (((L ++ [smallF (cut1 32 r1)]).length : Nat) : Int) by rw [wi64 (by omega) (by omega), List.length_append]; simp), trivial⟩), by (show (L ++ [smallF (cut1 32 r1)]).length ≤ n); rw [List.length_append]; simp; omega, by (show (cut2 32 r1).length ≤ r.length); omega, by
        rw [hnum, List.length_append]
        show _ = (numsF (n - (L.length + 1)) (cut2 32 r1) (cutQ 32 r1)).map _
        cases numsF (n - (L.length + 1)) (cut2 32 r1) (cutQ 32 r1) with
        | none => rfl
        | some x => simp, hp.pik (by repeat (first | exact Pik.nil | exact Pik.refl _ | exact Rm.here | apply Rm.there | apply Pik.cons | apply Pik.skip))⟩
 · have hc : L.length = n := by have : ¬ (L.length : Int) < (n : Int) := of_decide_eq_false hc; omega
   rw [show n - L.length = 0 by omega, numsF] at hnum
   have hnum : numsF n r q = some (L, r1, q1) := by rw [hnum]; simp
   have hK := hK _ _ _ _ (hp.pik (by repeat (first | exact Pik.nil | exact Pik.refl _ | exact Rm.here | apply Rm.there | apply Pik.cons | apply Pik.skip))) (fun x hx => by rw [hnum] at hx; injection hx with hx; subst hx; exact ⟨rfl, rfl, rfl⟩)
   rw [hnum] at hK
   conv => whnf
   refine Sm.seqW ?_
   conv => whnf
   refine Sm.live [8, 9, 10] ?_
   conv => whnf
   refine Sm.ofW ?_
   conv => whnf
   exact ⟨hK⟩
end
end

/- Texts: is one of two bytes in a text of letters of one byte? No condition. -/
section
variable [Lk]
section
variable {X : Nat → Prop} {s0 s : St} {R F F' : List At} {P : Program} {t : TypeId} {b : Nat}
theorem Hp.rangeS {K : Value × St → Prop} (h : Hp X s0 R F s) (hu : P.underlying t = some .string) (x : ByteArray)
  (hk : ∀ b s', Hp X s0 R (itA b x 0 :: F) s' → K0 s s' → K (.pointer (some ⟨b, 0, none⟩), s')) : Om (evRange P t (.string x) s) K := by
 obtain ⟨g1, g2⟩ := newIter_kp h.wf x 0
 refine .of (.pointer (some ⟨s.next, 0, none⟩), s.newIter x 0) ?_ (hk _ _ (h.push g1 g2 fun j hj => by subst hj; exact Nat.le_refl _) g1)
 unfold evRange
 rw [hu]
theorem Hp.nextS {K : Value × St → Prop} (h : Hp X s0 R F s) {x : ByteArray} {pos : Nat} {c : UInt8} (m : Rm (itA b x pos) F F') (hc : (bs x)[pos]? = some c) (h7 : c.toNat < 128)
  (hk : ∀ s', Hp X s0 R (itA b x (pos + 1) :: F') s' → K (.tuple #[.bool true, .int .i64 (pos : Int), .int .i32 (c.toNat : Int)], s')) : Om (evNext (.pointer (some ⟨b, 0, none⟩)) true s) K := by
 have hI : It s b x pos := h.okF _ m.sub.1
 obtain ⟨s', w1, w2, w3, w4⟩ := setIter_kp h.wf hI (t' := x) (p' := pos + 1)
 refine .of (_, s') ?_ (hk s' (h.upd m w2 (fun j hj => .inl hj) w3 (fun j hj => .inl hj)))
 unfold evNext
 simp only [hI.ex, hc, blt_of h7, w1]
theorem Hp.nextE {K : Value × St → Prop} (h : Hp X s0 R F s) {x : ByteArray} {pos : Nat} (m : Rm (itA b x pos) F F') (hc : (bs x)[pos]? = none)
  (hk : K (.tuple #[.bool false], s)) : Om (evNext (.pointer (some ⟨b, 0, none⟩)) true s) K := by
 have hI : It s b x pos := h.okF _ m.sub.1
 refine .of (_, s) ?_ hk
 unfold evNext
 simp only [hI.ex, hc]
end
theorem indexRune_spec (s : St) (l : List UInt8) (c : UInt8) (hc : c.toNat < 128) : Cw Tryz.prog 160 [sv l, .int .i32 ((c.toNat : Nat) : Int)] s fun r s' => s' = s ∧ r = .int .i64 (ixI (idxL c.toNat l 0)) := by
 refine Cw.enterS Tryz.func160 rfl rfl ?_
 refine Sm.seqW ?_
 conv => whnf
 refine Sm.block ?_
 have q1 : decide ((0 : Int) ≤ ((c.toNat : Nat) : Int)) = true := decide_eq_true (by omega)
 have q2 : decide (((c.toNat : Nat) : Int) < 128) = true := decide_eq_true (by omega)
 refine Sm.seqW ?_
 conv => whnf
 repeat (first | (refine Br.yes q1 ?_; conv => whnf) | (refine Br.yes q2 ?_; conv => whnf) | ((first | refine Br.y1 ?_ | refine Br.n1 ?_); conv => whnf))
 refine Sm.ofW ?_
 conv => whnf
 repeat ((first | refine Br.y1 ?_ | refine Br.n1 ?_); conv => whnf)
 refine Br.yes q2 ?_
 conv => whnf
 have e1 : IntKind.u8.wrap ((c.toNat : Nat) : Int) = ((c.toNat : Nat) : Int) := by
  show ((c.toNat : Nat) : Int) % 256 = _
  omega
 rw [e1]
 refine (sindexByte_spec _ l c).mono ?_
 rintro _ s1 ⟨h1, rfl⟩
 obtain rfl := h1.symm
 conv => whnf
 exact ⟨rfl, rfl⟩
/-! ### the set of two bytes -/
abbrev ats : List UInt8 := [44, 64]
def isAt (c : UInt8) : Bool := decide (c.toNat = 44 ∨ c.toNat = 64)
def setB (i : Nat) : List Bool := (List.range 256).map fun k => decide ((0 < i ∧ k = 44) ∨ (1 < i ∧ k = 64))
theorem setB_len (i : Nat) : (setB i).length = 256 := by simp [setB]
theorem setB_step : ∀ i, (h : i < 2) → (setB i).set (ats[i]'h).toNat true = setB (i + 1) := by decide +kernel
theorem ats_lt : ∀ i, (h : i < 2) → (ats[i]'h).toNat < 128 := by decide +kernel
theorem setB_get {k : Nat} (h : k < 256) : (natB (setB 2))[k]? = some (.bool (decide (k = 44 ∨ k = 64))) := by
 unfold natB setB
 rw [List.map_map, List.getElem?_map, List.getElem?_range h]
 show some (Value.bool (decide ((0 < 2 ∧ k = 44) ∨ (1 < 2 ∧ k = 64)))) = _
 have : decide ((0 < 2 ∧ k = 44) ∨ (1 < 2 ∧ k = 64)) = decide (k = 44 ∨ k = 64) := decide_eq_decide.2 (by omega)
 rw [this]
theorem atSet_spec {z : St} (wf : WF z) : Cw Tryz.prog 162 [sv ats] z fun r s' => K0 z s' ∧ r = .tuple #[.agg (natB (setB 2)).toArray, .bool true] := by
 have hp : Hp (fun _ => False) z [] [] z := Hp.start _ wf _ (by simp)
 refine Cw.enterS Tryz.func162 rfl rfl ?_
 refine Sm.seqW ?_
 conv => whnf
 refine hp.alloc (cs := natB (setB 0)) (e := 1) rfl rfl rfl (by kernel_rfl) rfl ?_
 clear hp
 intro p2 s hp _
 conv => whnf
 refine Sm.live [0, 2] ?_
 conv => whnf
 refine Sm.seq ?_
 refine Sm.seqW ?_
 conv => whnf
 refine Sm.block ?_
 refine Sm.loop ?_
 refine Lp.ofS (α := Nat) (fun i => [(0, sv ats), (2, .pointer (some ⟨p2, 0, none⟩)), (4, .int .i64 (i : Int))])
  (fun i s' => i ≤ 2 ∧ Hp (fun _ => False) z [] [blkA p2 p2 (natB (setB i)) 1] s') (fun i => 2 - i) ?_ 0 (subK_ok (by refine ⟨rfl, rfl, rfl, trivial⟩)) ⟨by decide, hp⟩
 clear hp
 rintro i s ⟨hi, hp⟩
 refine Sm.seq ?_
 refine Sm.seqW ?_
 conv => whnf
 refine Sm.ofW ?_
 conv => whnf
 refine Br.mk (fun hc => ?_) (fun hc => ?_)
 · have hc : i < 2 := by have h : (i : Int) < 2 := of_decide_eq_true hc; omega
   conv => whnf
   refine Sm.seq ?_
   refine Sm.block ?_
   refine Sm.seqW ?_
   conv => whnf
   refine Om.of _ (str_index Tryz.underlying9 (l := ats) (i := i) hc .i64) ?_
   conv => whnf
   have hm := ats_lt i hc
   have hst := setB_step i hc
   generalize (ats[i]'hc).toNat = m at *
   refine Sm.live [0, 2, 4, 5] ?_
   conv => whnf
   refine Sm.seq ?_
   refine Sm.seqW ?_
   conv => whnf
   refine Sm.ofW ?_
   conv => whnf
   refine Br.no (decide_eq_false (by omega)) ?_
   conv => whnf
   refine Sm.ofW ?_
   conv => whnf
   have hix : evIndexAddr Tryz.prog 209 (.pointer (some ⟨p2, 0, none⟩)) (.int .u8 ((m : Nat) : Int)) = some (.pointer (some ⟨p2, 0 + m, none⟩)) := ixA Tryz.underlying209 (by rfl) rfl .u8 (by omega)
   refine Om.of _ (hix) ?_
   conv => whnf
   refine hp.store .d (by rw [natB_len, setB_len]; omega) rfl rfl rfl rfl ?_
   clear hp
   intro s hp _
   rw [Nat.zero_add, natB_set, hst] at hp
   conv => whnf
   refine Sm.ofW ?_
   conv => whnf
   have ei : IntKind.i64.wrap ((i : Int) + 1) = ((i + 1 : Nat) : Int) := by rw [wi64 (by omega) (by omega)]; push_cast; rfl
   exact ⟨i + 1, by (show 2 - (i + 1) < 2 - i); omega, subK_ok (by refine ⟨rfl, rfl, congrArg (fun x => some (Value.int .i64 x)) ei, trivial⟩), by omega, hp⟩
 · have hc : ¬ i < 2 := by have h : ¬ (i : Int) < 2 := of_decide_eq_false hc; omega
   obtain rfl : i = 2 := by omega
   conv => whnf
   refine Sm.seqW ?_
   conv => whnf
   refine hp.loadA (l := natB (setB 2)) .d rfl (sl_all (by rw [natB_len, setB_len]; rfl)) rfl rfl ?_
   conv => whnf
   refine hp.storeW (vs := natB (setB 2)) rfl .d rfl rfl (by rw [natB_len, setB_len]; rfl) (by kernel_rfl) ?_
   clear hp
   intro s hp _
   conv => whnf
   refine Sm.ofW ?_
   conv => whnf
   refine hp.loadA (l := natB (setB 2)) .d rfl (sl_all (by rw [natB_len, setB_len]; rfl)) rfl rfl ?_
   conv => whnf
   exact ⟨hp.fr, rfl⟩
theorem atContains_spec {s : St} {k p e : Nat} (hb : Blk s k p (natB (setB 2)) e) (c : UInt8) : Cw Tryz.prog 163 [.pointer (some ⟨p, 0, none⟩), .int .u8 ((c.toNat : Nat) : Int)] s fun r s' => s' = s ∧ r = .bool (isAt c) := by
 have hc := c.toNat_lt
 refine Cw.enterS Tryz.func163 rfl rfl ?_
 refine Sm.seqW ?_
 conv => whnf
 refine Sm.seqW ?_
 conv => whnf
 have hix : evIndexAddr Tryz.prog 209 (.pointer (some ⟨p, 0, none⟩)) (.int .u8 ((c.toNat : Nat) : Int)) = some (.pointer (some ⟨p, 0 + c.toNat, none⟩)) := ixA Tryz.underlying209 (by rfl) rfl .u8 hc
 refine Om.of _ (hix) ?_
 conv => whnf
 refine Om.of _ (load_cell (v := .bool (isAt c)) Tryz.underlying4 rfl rfl hb.rd (by rw [Nat.zero_add]; exact setB_get hc)) ?_
 conv => whnf
 refine Sm.ofW ?_
 conv => whnf
 exact ⟨rfl, rfl⟩
end

/- Texts: IndexAny, ContainsAny; the amount of a command. No condition but that the text's letters are of one byte. -/
section
variable [Lk]
theorem at_idx (c : UInt8) : decide (ixI (idxL c.toNat ats 0) ≥ 0) = isAt c := by
 unfold idxL idxL idxL isAt
 show decide (ixI (match Nat.beq 44 c.toNat with | true => some 0 | false => match Nat.beq 64 c.toNat with | true => some 1 | false => none) ≥ 0) = _
 by_cases h1 : c.toNat = 44
 · rw [h1]; rfl
 · by_cases h2 : c.toNat = 64
   · rw [h2]; rfl
   · have e1 : Nat.beq 44 c.toNat = false := by cases h : Nat.beq 44 c.toNat with | false => rfl | true => exact absurd (Nat.eq_of_beq_eq_true h).symm h1
     have e2 : Nat.beq 64 c.toNat = false := by cases h : Nat.beq 64 c.toNat with | false => rfl | true => exact absurd (Nat.eq_of_beq_eq_true h).symm h2
     rw [e1, e2, decide_eq_false (show ¬ (c.toNat = 44 ∨ c.toNat = 64) by omega)]; rfl
theorem any_take {l : List UInt8} {i : Nat} (hi : i < l.length) (h : (l.take i).any isAt = false) (h2 : isAt l[i] = false) : (l.take (i + 1)).any isAt = false := by
 rw [List.take_succ_eq_append_getElem hi, List.any_append, h]; simp [h2]
theorem any_at {l : List UInt8} {i : Nat} (hi : i < l.length) (h2 : isAt l[i] = true) : l.any isAt = true := List.any_eq_true.2 ⟨_, List.getElem_mem hi, h2⟩
theorem useSet_spec (s : St) (n : Int) : Cw Tryz.prog 161 [.int .i64 n] s fun r s' => s' = s ∧ r = .bool (decide (n > 8)) := by
 refine Cw.enterS Tryz.func161 rfl rfl ?_
 refine Sm.seqW ?_
 conv => whnf
 refine Sm.seqW ?_
 conv => whnf
 refine Sm.ofW ?_
 conv => whnf
 exact ⟨rfl, rfl⟩
theorem indexAny_spec {z : St} (wf : WF z) (l : List UInt8) (hl : l.length ≤ 100000000000000) (ha : ∀ c ∈ l, c.toNat < 128) :
  Cw Tryz.prog 141 [sv l, sv ats] z fun r s' => K0 z s' ∧ ∃ n : Int, r = .int .i64 n ∧ (0 ≤ n ↔ l.any isAt = true) := by
 have hp : Hp (fun _ => False) z [] [] z := Hp.start _ wf _ (by simp)
 refine Cw.enterS Tryz.func141 rfl rfl ?_
 refine Sm.seqW ?_
 conv => whnf
 refine Sm.live [0, 1] ?_
 conv => whnf
 refine Sm.seq ?_
 refine Sm.seqW ?_
 conv => whnf
 refine Om.of _ (sv_eq ats []) ?_
 conv => whnf
 refine Sm.live [0, 1, 12] ?_
 conv => whnf
 refine Sm.ofW ?_
 conv => whnf
 repeat ((first | refine Br.y1 ?_ | refine Br.n1 ?_); conv => whnf)
 refine Sm.seq ?_
 refine Sm.seqW ?_
 conv => whnf
 refine Sm.live [0, 1, 15] ?_
 conv => whnf
 refine Sm.ofW ?_
 conv => whnf
 repeat ((first | refine Br.y1 ?_ | refine Br.n1 ?_); conv => whnf)
 refine Sm.seq ?_
 refine Sm.seqW ?_
 conv => whnf
 refine (useSet_spec _ _).mono ?_
 rintro _ s1 ⟨h1, rfl⟩
 obtain rfl := h1.symm
 conv => whnf
 refine Sm.live [0, 1, 26] ?_
 conv => whnf
 refine Sm.ofW ?_
 conv => whnf
 have hbl : (bs ⟨l.toArray⟩).length = l.length := rfl
 by_cases h8 : ((l.length : Nat) : Int) > 8
 · refine Br.yes (decide_eq_true h8) ?_
   conv => whnf
   refine hp.call (atSet_spec hp.wf) ?_
   clear hp
   rintro _ s rfl hp _
   conv => whnf
   refine hp.alloc (cs := natB (setB 0)) (e := 1) rfl rfl rfl (by kernel_rfl) rfl ?_
   clear hp
   intro p6 s hp _
   conv => whnf
   refine hp.storeW (vs := natB (setB 2)) rfl .d (by rw [natB_len, natB_len, setB_len, setB_len]) rfl (by rw [natB_len, setB_len]; rfl) (by kernel_rfl) ?_
   clear hp
   intro s hp _
   conv => whnf
   repeat ((first | refine Br.y1 ?_ | refine Br.n1 ?_); conv => whnf)
   refine Lp.of (α := Nat) (fun i => [(0, sv l), (6, .pointer (some ⟨p6, 0, none⟩)), (8, .int .i64 (i : Int))])
    (fun i s' => i ≤ l.length ∧ (l.take i).any isAt = false ∧ Hp (fun _ => False) z [] [blkA p6 p6 (natB (setB 2)) 1] s') (fun i => l.length - i) ?_ 0 (subK_ok (by refine ⟨rfl, rfl, rfl, trivial⟩)) ⟨Nat.zero_le _, rfl, hp.pik (by repeat (first | exact Pik.nil | exact Pik.refl _ | exact Rm.here | apply Rm.there | apply Pik.cons | apply Pik.skip))⟩
   clear hp
   rintro i s ⟨hi, hno, hp⟩
   conv => whnf
   rw [hbl]
   refine Br.mk (fun hc => ?_) (fun hc => ?_)
   · have hc : i < l.length := by have : (i : Int) < ((l.length : Nat) : Int) := of_decide_eq_true hc; omega
     conv => whnf
     refine Om.of _ (str_index Tryz.underlying9 (l := l) (i := i) hc .i64) ?_
     conv => whnf
     refine (atContains_spec (hp.at (show Has (blkA p6 p6 (natB (setB 2)) 1) _ _ by repeat constructor)) l[i]).mono ?_
     rintro _ s1 ⟨h1, rfl⟩
     obtain rfl := h1.symm
     conv => whnf
     cases hA : isAt l[i] with
     | true =>
       repeat ((first | refine Br.y1 ?_ | refine Br.n1 ?_); conv => whnf)
       exact ⟨hp.fr, _, rfl, fun _ => any_at hc hA, fun _ => by omega⟩
     | false =>
       repeat ((first | refine Br.y1 ?_ | refine Br.n1 ?_); conv => whnf)
       exact ⟨i + 1, by (show l.length - (i + 1) < l.length - i); omega, subK_ok (by refine ⟨rfl, rfl, congrArg (fun x => some (Value.int .i64 x)) (show IntKind.i64.wrap ((i : Int) + 1) = ((i + 1 : Nat) : Int) by rw [wi64 (by omega) (by omega)]; omega), trivial⟩), by omega, any_take hc hno hA, hp⟩
   · have hc : i = l.length := by have : ¬ (i : Int) < ((l.length : Nat) : Int) := of_decide_eq_false hc; omega
     subst hc
     rw [List.take_length] at hno
     conv => whnf
     exact ⟨hp.fr, _, rfl, fun h => absurd h (by decide), fun h => by rw [hno] at h; cases h⟩
 · refine Br.no (decide_eq_false h8) ?_
   conv => whnf
   refine Sm.seq ?_
   refine Sm.seqW ?_
   conv => whnf
   refine hp.rangeS Tryz.underlying9 ⟨l.toArray⟩ ?_
   clear hp
   intro b s hp _
   conv => whnf
   refine Sm.live [1, 45] ?_
   conv => whnf
   refine Sm.block ?_
   refine Sm.loop ?_
   refine Lp.ofS (α := Nat) (fun i => [(1, sv ats), (45, .pointer (some ⟨b, 0, none⟩))])
    (fun i s' => i ≤ l.length ∧ (l.take i).any isAt = false ∧ Hp (fun _ => False) z [] [itA b ⟨l.toArray⟩ i] s') (fun i => l.length - i) ?_ 0 (subK_ok (by refine ⟨rfl, rfl, trivial⟩)) ⟨Nat.zero_le _, rfl, hp⟩
   clear hp
   rintro i s ⟨hi, hno, hp⟩
   refine Sm.seqW ?_
   conv => whnf
   by_cases hc : i < l.length
   · have hlt := ha _ (List.getElem_mem hc)
     refine hp.nextS (c := l[i]) .d (show l[i]? = some l[i] from List.getElem?_eq_getElem hc) hlt ?_
     clear hp
     intro s hp
     conv => whnf
     refine Sm.live [1, 45, 46, 47] ?_
     conv => whnf
     refine Sm.seq ?_
     refine Sm.ofW ?_
     conv => whnf
     repeat ((first | refine Br.y1 ?_ | refine Br.n1 ?_); conv => whnf)
     refine Sm.block ?_
     refine Sm.seqW ?_
     conv => whnf
     refine Sm.live [1, 9, 10, 45] ?_
     conv => whnf
     refine Sm.seqW ?_
     conv => whnf
     refine (indexRune_spec _ ats l[i] hlt).mono ?_
     rintro _ s1 ⟨h1, rfl⟩
     obtain rfl := h1.symm
     conv => whnf
     refine Sm.live [1, 9, 45, 53] ?_
     conv => whnf
     refine Sm.ofW ?_
     conv => whnf
     rw [at_idx]
     cases hA : isAt l[i] with
     | true =>
       repeat ((first | refine Br.y1 ?_ | refine Br.n1 ?_); conv => whnf)
       exact ⟨hp.fr, _, rfl, fun _ => any_at hc hA, fun _ => by omega⟩
     | false =>
       repeat ((first | refine Br.y1 ?_ | refine Br.n1 ?_); conv => whnf)
       exact ⟨i + 1, by (show l.length - (i + 1) < l.length - i); omega, subK_ok (by refine ⟨rfl, rfl, trivial⟩), by omega, any_take hc hno hA, hp⟩
   · have hc : i = l.length := by omega
     subst hc
     rw [List.take_length] at hno
     refine hp.nextE .d (show l[l.length]? = none from List.getElem?_eq_none (Nat.le_refl _)) ?_
     conv => whnf
     refine Sm.live [1, 45, 46, 47] ?_
     conv => whnf
     refine Sm.seq ?_
     refine Sm.ofW ?_
     conv => whnf
     repeat ((first | refine Br.y1 ?_ | refine Br.n1 ?_); conv => whnf)
     refine Sm.seqW ?_
     conv => whnf
     refine Sm.live [4] ?_
     conv => whnf
     refine Sm.ofW ?_
     conv => whnf
     exact ⟨hp.fr, _, rfl, fun h => absurd h (by decide), fun h => by rw [hno] at h; cases h⟩
end

/- The amount of a command; is a byte in a text? No condition but that the text's letters are of one byte. -/
section
variable [Lk]
theorem containsAny_spec {z : St} (wf : WF z) (l : List UInt8) (hl : l.length ≤ 100000000000000) (ha : ∀ c ∈ l, c.toNat < 128) :
  Cw Tryz.prog 120 [sv l, sv ats] z fun r s' => K0 z s' ∧ r = .bool (l.any isAt) := by
 have hp : Hp (fun _ => False) z [] [] z := Hp.start _ wf _ (by simp)
 refine Cw.enterS Tryz.func120 rfl rfl ?_
 refine Sm.seqW ?_
 conv => whnf
 refine Sm.live [0, 1] ?_
 conv => whnf
 refine Sm.seqW ?_
 conv => whnf
 refine hp.call (indexAny_spec hp.wf l hl ha) ?_
 clear hp
 rintro _ s ⟨n, rfl, hn⟩ hp _
 conv => whnf
 refine Sm.live [4] ?_
 conv => whnf
 refine Sm.ofW ?_
 conv => whnf
 refine ⟨hp.fr, congrArg Value.bool ?_⟩
 rw [Bool.eq_iff_iff, ← hn, decide_eq_true_iff]
theorem contains1_spec (s : St) (l : List UInt8) (c : UInt8) : Cw Tryz.prog 79 [sv l, sv [c]] s fun r s' => s' = s ∧ r = .bool (cutQ c l) := by
 refine Cw.enterS Tryz.func79 rfl rfl ?_
 refine Sm.seqW ?_
 conv => whnf
 refine Sm.seqW ?_
 conv => whnf
 refine (sindex_spec _ l c).mono ?_
 rintro _ s1 ⟨h1, rfl⟩
 obtain rfl := h1.symm
 conv => whnf
 refine Sm.ofW ?_
 conv => whnf
 refine ⟨rfl, congrArg Value.bool ?_⟩
 unfold cutQ ixI
 cases idxL c.toNat l 0 with
 | none => rfl
 | some i => exact decide_eq_true (Int.natCast_nonneg i)
theorem readL_ne {l : List UInt8} (h : (readL l).2 = 0) : (readL l).1 ≠ [] := by
 unfold readL at h ⊢
 split
 · rename_i g; rw [if_pos g] at h; cases h
 · rename_i g
   rw [if_neg g] at h
   split
   · rename_i g; rw [if_pos g] at h; cases h
   · rename_i g
     rw [if_neg g] at h
     split
     · rename_i g; rw [if_pos g] at h; cases h
     · intro e
       have : splitL 44 l = [] := List.map_eq_nil_iff.1 e
       exact splitL_ne _ _ this
theorem head_at {l : List Ln} (h : 0 < l.length) : l.headD Ln.zero = l[0] := by
 cases l with
 | nil => exact absurd h (by decide)
 | cons x r => rfl
def amtF (l : List UInt8) : Dc × Int := if l.any isAt = true then (Dc.zero, 2) else if (readL (48 :: 58 :: l)).2 ≠ 0 then (Dc.zero, (readL (48 :: 58 :: l)).2) else (((readL (48 :: 58 :: l)).1.headD Ln.zero).amt, 0)
theorem amount_c {z : St} (wf : WF z) (hg : Gs z) (l : List UInt8) (hl : l.length ≤ 1000000000000) (ha : ∀ c ∈ l, c.toNat < 128) :
  Cw Tryz.prog 78 [sv l] z fun r s' => K0 z s' ∧ r = .tuple #[(amtF l).1.val, .int .i64 (amtF l).2] := by
 have hp : Hp (fun _ => False) z [] [] z := Hp.start _ wf _ (by simp)
 refine Cw.enterS Tryz.func78 rfl rfl ?_
 refine Sm.seqW ?_
 conv => whnf
 refine hp.alloc (cs := Dc.zero.cells) (e := 4) rfl rfl rfl rfl rfl ?_
 clear hp
 intro p2 s hp _
 conv => whnf
 refine Sm.live [0, 2] ?_
 conv => whnf
 refine Sm.seq ?_
 refine Sm.seqW ?_
 conv => whnf
 refine hp.call (containsAny_spec hp.wf l (by omega) ha) ?_
 clear hp
 rintro _ s rfl hp _
 conv => whnf
 refine Sm.live [0, 2, 7] ?_
 conv => whnf
 refine Sm.ofW ?_
 conv => whnf
 unfold amtF
 cases hA : l.any isAt with
 | true =>
   rw [if_pos rfl]
   repeat ((first | refine Br.y1 ?_ | refine Br.n1 ?_); conv => whnf)
   refine hp.storeW (vs := Dc.zero.cells) rfl .d csx rfl rfl rfl ?_
   clear hp
   intro s hp _
   conv => whnf
   refine hp.loadA (l := Dc.zero.cells) .d rfl (by rfl) rfl rfl ?_
   conv => whnf
   exact ⟨hp.fr, rfl⟩
 | false =>
   rw [if_neg (by decide)]
   repeat ((first | refine Br.y1 ?_ | refine Br.n1 ?_); conv => whnf)
   refine Sm.seqW ?_
   conv => whnf
   refine Om.of _ (sv_add [48, 58] l (by simp; omega)) ?_
   conv => whnf
   have hll : (48 :: 58 :: l).length ≤ 10000000000000 := by simp only [List.length_cons]; omega
   refine hp.call (eread_spec hp.wf (hg.keep hp.fr) (48 :: 58 :: l) hll) ?_
   intro r s hr h1 k1
   obtain ⟨w, rfl, how_⟩ := hr
   obtain ⟨κ, hp⟩ := hp.on k1 how_
   clear h1 k1 how_
   obtain ⟨aw, cw, rfl⟩ := (hp.slF (κ := κ) (v := w) .d).shape
   have hne := readL_ne (l := 48 :: 58 :: l)
   generalize readL (48 :: 58 :: l) = A at *
   conv => whnf
   refine Sm.live [2, 4, 5] ?_
   conv => whnf
   refine Sm.seq ?_
   refine Sm.seqW ?_
   conv => whnf
   refine Sm.live [2, 4, 5, 16] ?_
   conv => whnf
   refine Sm.ofW ?_
   conv => whnf
   by_cases he : A.2 = 0
   · rw [if_neg (by simpa using he)]
     refine Br.no (by show (!(A.2 == 0)) = false; rw [he]; rfl) ?_
     conv => whnf
     refine Sm.seqW ?_
     conv => whnf
     have hlen : 0 < A.1.length := List.length_pos_iff.2 (hne he)
     obtain ⟨eb, eo, g1, g2⟩ := index_amt (hp.slF (κ := κ) (v := .slice aw A.1.length cw) .d) .i64 (i := 0) hlen
     have hd : A.1.headD Ln.zero = A.1[0] := head_at hlen
     rw [← hd] at g2
     refine Om.of _ (g1) ?_
     conv => whnf
     refine Om.of _ (g2) ?_
     conv => whnf
     refine hp.storeW (vs := (A.1.headD Ln.zero).amt.cells) rfl .d csx rfl rfl rfl ?_
     clear hp
     intro s hp _
     conv => whnf
     refine Sm.live [2, 3] ?_
     conv => whnf
     refine Sm.ofW ?_
     conv => whnf
     refine hp.loadA (l := (A.1.headD Ln.zero).amt.cells) .d rfl (by rfl) rfl rfl ?_
     conv => whnf
     exact ⟨hp.fr, rfl⟩
   · rw [if_pos he]
     refine Br.yes (by show (!(A.2 == 0)) = true; rw [beq_eq_false_iff_ne.2 he]; rfl) ?_
     conv => whnf
     refine hp.storeW (vs := Dc.zero.cells) rfl .d csx rfl rfl rfl ?_
     clear hp
     intro s hp _
     conv => whnf
     refine hp.loadA (l := Dc.zero.cells) .d rfl (by rfl) rfl rfl ?_
     conv => whnf
     exact ⟨hp.fr, rfl⟩
end

/- Commands are read. No condition but that a rate's letters are of one byte. -/
section
variable [Lk]
structure Cm where
 v : Int
 a : Int
 b : Int
 c : Int
 amt : Dc
 ls : List Ln
 txt : List UInt8
def Cm.zero : Cm := ⟨0, 0, 0, 0, Dc.zero, [], []⟩
def Cm.tail (x : Cm) (w : Value) : List Value := [.bool x.amt.neg, .int .u64 ((x.amt.c % w64 : Nat) : Int), .int .u64 ((x.amt.c / w64 : Nat) : Int), .int .i64 x.amt.scale, w, sv x.txt]
def Cm.cells (x : Cm) (w : Value) : List Value := cmC x.v x.a x.b x.c (x.tail w)
def Cm.val (x : Cm) (w : Value) : Value := .agg (x.cells w).toArray
def nil24 : Value := .slice none 0 0
def baseC (k : Int) (l : List Int) : Cm := ⟨k, l.getD 0 0, l.getD 1 0, l.getD 2 0, Dc.zero, [], []⟩
def restC (k : Int) (l : List Int) (r : List UInt8) : Cm × Int :=
 if k = 1 then (if (readL r).2 ≠ 0 then (Cm.zero, (readL r).2) else ({ baseC k l with ls := (readL r).1 }, 0))
 else if k = 5 then (if (amtF r).2 ≠ 0 then (Cm.zero, (amtF r).2) else ({ baseC k l with amt := (amtF r).1 }, 0))
 else if k = 9 then (if r = [] ∨ cutQ 10 r = true then (Cm.zero, 2) else ({ baseC k l with txt := r }, 0))
 else (baseC k l, 0)
def readC (s : List UInt8) : Cm × Int :=
 match numsF (shape (verbN (cut1 32 s))).1.2 (cut2 32 s) (cutQ 32 s) with
 | none => (Cm.zero, 2)
 | some (l, r, q) => if 400 < s.length ∨ verbN (cut1 32 s) = 0 ∨ q ≠ tailF (verbN (cut1 32 s)) then (Cm.zero, 2) else restC (verbN (cut1 32 s)) l r
theorem shape_le (v : Int) : (shape v).1.2 ≤ 3 := by
 unfold shape
 split
 · exact Nat.zero_le _
 · rename_i h
   obtain ⟨k, hk⟩ : ∃ k : Nat, (v - 1).toNat = k := ⟨_, rfl⟩
   rw [hk]
   have h7 : k = 0 ∨ k = 1 ∨ k = 2 ∨ k = 3 ∨ k = 4 ∨ k = 5 ∨ k = 6 ∨ k = 7 ∨ k = 8 ∨ k = 9 ∨ k = 10 ∨ k = 11 ∨ k = 12 := by omega
   rcases h7 with rfl | rfl | rfl | rfl | rfl | rfl | rfl | rfl | rfl | rfl | rfl | rfl | rfl <;> decide
theorem cut2_sub {c : UInt8} {l : List UInt8} : ∀ b ∈ cut2 c l, b ∈ l := by
 unfold cut2
 split
 · intro b hb; exact List.mem_of_mem_drop hb
 · intro b hb; cases hb
theorem nums_sub : ∀ {n : Nat} {r : List UInt8} {q : Bool} {x : List Int × List UInt8 × Bool}, numsF n r q = some x → (∀ b ∈ x.2.1, b ∈ r) ∧ x.2.1.length ≤ r.length
 | 0, r, q, x, h => by
   injection h with h; subst h; exact ⟨fun b hb => hb, Nat.le_refl _⟩
 | n + 1, r, q, x, h => by
   rw [numsF] at h
   split at h
   · cases h
   · cases hq : numsF n (cut2 32 r) (cutQ 32 r) with
     | none => rw [hq] at h; cases h
     | some y =>
       rw [hq] at h
       injection h with h
       subst h
       obtain ⟨h1, h2⟩ := nums_sub hq
       have := cut2_len 32 r
       exact ⟨fun b hb => cut2_sub b (h1 b hb), Nat.le_trans h2 this⟩
theorem verbN_le (w : List UInt8) : verbN w ≤ 13 := by
 have : ∀ n k, verbF w n k ≤ n + k := by
  intro n
  induction n with
  | zero => intro k; simp [verbF]
  | succ n ih =>
    intro k
    unfold verbF
    split
    · omega
    · have := ih (k + 1); omega
 have h2 : ∀ n k, n + k ≤ 14 → verbF w n k ≤ 13 := by
  intro n
  induction n with
  | zero => intro k _; simp [verbF]
  | succ n ih =>
    intro k h
    unfold verbF
    split
    · omega
    · exact ih (k + 1) (by omega)
 exact h2 13 1 (by decide)
theorem cread_spec {z : St} (wf : WF z) (hg : Gs z) (t : List UInt8) (hl : t.length ≤ 100000000000) (ha : verbN (cut1 32 t) = 5 → ∀ c ∈ t, c.toNat < 128) :
  Cw Tryz.prog 31 [sv t] z fun r s' => K0 z s' ∧ ∃ w, r = .tuple #[(readC t).1.val w, .int .i64 (readC t).2] ∧ OwnN z.next s' w 6 (readC t).1.ls.length (lnC (readC t).1.ls) := by
 have hp : Hp (fun _ => False) z [] [] z := Hp.start _ wf _ (by simp)
 have hfail : ∀ s, K0 z s → readC t = (Cm.zero, 2) → (K0 z s ∧ ∃ w, Value.tuple #[Cm.zero.val nil24, .int .i64 2] = .tuple #[(readC t).1.val w, .int .i64 (readC t).2] ∧ OwnN z.next s w 6 (readC t).1.ls.length (lnC (readC t).1.ls)) := by
  intro s hk h
  rw [h]
  exact ⟨hk, nil24, rfl, ⟨.inl ⟨rfl, rfl, rfl⟩⟩⟩
 refine Cw.enterS Tryz.func31 rfl rfl ?_
 refine Sm.seqW ?_
 conv => whnf
 refine hp.alloc (cs := Cm.zero.cells nil24) (e := 10) rfl rfl rfl rfl rfl ?_
 clear hp
 intro p2 s hp _
 conv => whnf
 refine Sm.live [0, 2] ?_
 conv => whnf
 refine Sm.seqW ?_
 conv => whnf
 refine (cut_spec _ t (by omega) 32).mono ?_
 rintro _ s1 ⟨h1, rfl⟩
 obtain rfl := h1.symm
 conv => whnf
 rw [cut_val]
 conv => whnf
 refine Sm.live [0, 2, 4, 5, 6] ?_
 conv => whnf
 refine Sm.seqW ?_
 conv => whnf
 refine hp.alloc (cs := Cm.zero.cells nil24) (e := 10) rfl rfl rfl rfl rfl ?_
 clear hp
 intro p7 s hp _
 conv => whnf
 refine Sm.live [0, 2, 4, 5, 6, 7] ?_
 conv => whnf
 refine Sm.seqW ?_
 conv => whnf
 refine hp.call (verb_spec hp.wf (cut1 32 t)) ?_
 clear hp
 rintro _ s rfl hp _
 conv => whnf
 have hk13 := verbN_le (cut1 32 t)
 have hrd : readC t = (match numsF (shape (verbN (cut1 32 t))).1.2 (cut2 32 t) (cutQ 32 t) with
  | none => (Cm.zero, 2)
  | some (l, r, q) => if 400 < t.length ∨ verbN (cut1 32 t) = 0 ∨ q ≠ tailF (verbN (cut1 32 t)) then (Cm.zero, 2) else restC (verbN (cut1 32 t)) l r) := rfl
 generalize verbN (cut1 32 t) = k at *
 have hsl := shape_le k
 refine hp.alloc (cs := shC ([], 0)) (e := 2) rfl rfl rfl rfl rfl ?_
 clear hp
 intro p9 s hp _
 conv => whnf
 refine hp.storeW (vs := shC (shape k).1) rfl .d csx rfl rfl rfl ?_
 clear hp
 intro s hp _
 conv => whnf
 refine Sm.live [0, 2, 5, 6, 7, 8, 9] ?_
 conv => whnf
 refine Sm.seqW ?_
 conv => whnf
 refine hp.store (v := .int .i64 (k : Int)) (off := 0) .d (by decide) rfl rfl rfl rfl ?_
 clear hp
 intro s hp _
 replace hp : Hp (fun _ => False) z [] [blkA p7 p7 (cmC k 0 0 0 (Cm.zero.tail nil24)) 10, blkA p9 p9 (shC (shape k).1) 2, blkA p2 p2 (Cm.zero.cells nil24) 10] s := hp.pik (by repeat (first | exact Pik.nil | exact Pik.refl _ | exact Rm.here | apply Rm.there | apply Pik.cons | apply Pik.skip))
 conv => whnf
 refine Sm.live [0, 2, 5, 6, 7, 8, 9] ?_
 conv => whnf
 refine Sm.seqW ?_
 conv => whnf
 refine hp.load (v := .int .i64 ((shape k).1.2 : Int)) .d (by rfl) rfl rfl rfl ?_
 conv => whnf
 have hl2 := cut2_len 32 t
 refine numbers_spec hp hg rfl .d (cut2 32 t) (by omega) (cutQ 32 t) hsl ?_
 clear hp
 intro a b c s hp hx
 have hbl : (bs ⟨t.toArray⟩).length = t.length := rfl
 cases hn : numsF (shape k).1.2 (cut2 32 t) (cutQ 32 t) with
 | none =>
   rw [hn] at hrd
   have hrd : readC t = (Cm.zero, 2) := hrd
   conv => whnf
   refine Sm.live [0, 2, 5, 6, 7, 8, 10] ?_
   conv => whnf
   refine Sm.seq ?_
   refine Sm.seqC (fun e' L' s' => e' = .normal ∧ s' = s ∧ Sub [(2, .pointer (some ⟨p2, 0, none⟩)), (50, .bool true)] L') ?_ ?_
   · conv => whnf
     rw [hbl]
     cases q1 : decide (((t.length : Nat) : Int) > 400) with
     | true =>
       repeat (first | (refine Br.yes q1 ?_; conv => whnf) | ((first | refine Br.y1 ?_ | refine Br.n1 ?_); conv => whnf))
       exact ⟨rfl, rfl, subK_ok ⟨rfl, rfl, trivial⟩⟩
     | false =>
       repeat (first | (refine Br.no q1 ?_; conv => whnf) | ((first | refine Br.y1 ?_ | refine Br.n1 ?_); conv => whnf))
       cases q2 : ((k : Int) == 0) with
       | true =>
         repeat (first | (refine Br.yes q2 ?_; conv => whnf) | ((first | refine Br.y1 ?_ | refine Br.n1 ?_); conv => whnf))
         exact ⟨rfl, rfl, subK_ok ⟨rfl, rfl, trivial⟩⟩
       | false =>
         repeat (first | (refine Br.no q2 ?_; conv => whnf) | ((first | refine Br.y1 ?_ | refine Br.n1 ?_); conv => whnf))
         exact ⟨rfl, rfl, subK_ok ⟨rfl, rfl, trivial⟩⟩
   rintro e' L' s' ⟨rfl, h1, hs⟩
   obtain rfl := h1.symm
   refine Sm.weak _ hs ?_
   clear hs
   refine Sm.ofW ?_
   conv => whnf
   repeat ((first | refine Br.y1 ?_ | refine Br.n1 ?_); conv => whnf)
   refine hp.storeW (vs := Cm.zero.cells nil24) rfl .d csx rfl rfl rfl ?_
   clear hp
   intro s hp _
   conv => whnf
   refine hp.loadA (l := Cm.zero.cells nil24) .d rfl (by rfl) rfl rfl ?_
   conv => whnf
   exact ⟨hfail _ hp.fr hrd⟩
 | some x =>
   obtain ⟨l, r, q⟩ := x
   rw [hn] at hrd
   have hrd : readC t = if 400 < t.length ∨ k = 0 ∨ q ≠ tailF k then (Cm.zero, 2) else restC k l r := hrd
   obtain ⟨rfl, rfl, rfl⟩ := hx _ hn
   obtain ⟨hsub, hrl⟩ := nums_sub hn
   simp only at hsub hrl hp
   conv => whnf
   refine Sm.live [0, 2, 5, 6, 7, 8, 10] ?_
   conv => whnf
   refine Sm.seq ?_
   refine Sm.seqC (fun e' L' s' => e' = .normal ∧ s' = s ∧ Sub [(2, .pointer (some ⟨p2, 0, none⟩)), (5, sv r), (7, .pointer (some ⟨p7, 0, none⟩)), (8, .int .i64 (k : Int)), (50, .bool (decide (400 < t.length ∨ k = 0 ∨ q ≠ tailF k)))] L') ?_ ?_
   · conv => whnf
     rw [hbl]
     by_cases g1 : 400 < t.length
     · have q1 : decide (((t.length : Nat) : Int) > 400) = true := decide_eq_true (by omega)
       repeat (first | (refine Br.yes q1 ?_; conv => whnf) | ((first | refine Br.y1 ?_ | refine Br.n1 ?_); conv => whnf))
       exact ⟨rfl, rfl, subK_ok ⟨rfl, rfl, rfl, rfl, congrArg (fun x => some (Value.bool x)) (decide_eq_true (.inl g1)).symm, trivial⟩⟩
     · have q1 : decide (((t.length : Nat) : Int) > 400) = false := decide_eq_false (by omega)
       repeat (first | (refine Br.no q1 ?_; conv => whnf) | ((first | refine Br.y1 ?_ | refine Br.n1 ?_); conv => whnf))
       by_cases g2 : k = 0
       · have q2 : ((k : Int) == 0) = true := beq_iff_eq.2 (by omega)
         repeat (first | (refine Br.no q1 ?_; conv => whnf) | (refine Br.yes q2 ?_; conv => whnf) | ((first | refine Br.y1 ?_ | refine Br.n1 ?_); conv => whnf))
         exact ⟨rfl, rfl, subK_ok ⟨rfl, rfl, rfl, rfl, congrArg (fun x => some (Value.bool x)) (decide_eq_true (.inr (.inl g2))).symm, trivial⟩⟩
       · have q2 : ((k : Int) == 0) = false := beq_eq_false_iff_ne.2 (by omega)
         repeat (first | (refine Br.no q1 ?_; conv => whnf) | (refine Br.no q2 ?_; conv => whnf) | ((first | refine Br.y1 ?_ | refine Br.n1 ?_); conv => whnf))
         refine (tailed_spec _ (k : Int)).mono ?_
         rintro _ s1 ⟨h1, rfl⟩
         obtain rfl := h1.symm
         conv => whnf
         repeat (first | (refine Br.no q1 ?_; conv => whnf) | (refine Br.no q2 ?_; conv => whnf) | ((first | refine Br.y1 ?_ | refine Br.n1 ?_); conv => whnf))
         refine Om.of (.bool (!(q == tailF k))) (by cases q <;> cases tailF k <;> rfl) ?_
         conv => whnf
         repeat (first | (refine Br.no q1 ?_; conv => whnf) | (refine Br.no q2 ?_; conv => whnf) | ((first | refine Br.y1 ?_ | refine Br.n1 ?_); conv => whnf))
         exact ⟨rfl, rfl, subK_ok ⟨rfl, rfl, rfl, rfl, congrArg (fun x => some (Value.bool x)) (by rw [Bool.eq_iff_iff]; simp [g1, g2]), trivial⟩⟩
   rintro e' L' s' ⟨rfl, h1, hs⟩
   obtain rfl := h1.symm
   refine Sm.weak _ hs ?_
   clear hs
   refine Sm.ofW ?_
   conv => whnf
   by_cases hbad : 400 < t.length ∨ k = 0 ∨ q ≠ tailF k
   · rw [if_pos hbad] at hrd
     refine Br.yes (decide_eq_true hbad) ?_
     conv => whnf
     refine hp.storeW (vs := Cm.zero.cells nil24) rfl .d csx rfl rfl rfl ?_
     clear hp
     intro s hp _
     conv => whnf
     refine hp.loadA (l := Cm.zero.cells nil24) .d rfl (by rfl) rfl rfl ?_
     conv => whnf
     exact ⟨hfail _ hp.fr hrd⟩
   · rw [if_neg hbad] at hrd
     refine Br.no (decide_eq_false hbad) ?_
     conv => whnf
     refine Sm.seqW ?_
     conv => whnf
     refine Sm.live [2, 5, 7, 8, 11] ?_
     conv => whnf
     have hka : 0 ≤ (k : Int) := by omega
     refine Sm.seq (Sm.mono (Q := fun e' L' s' => e' = .normal ∧ ∃ κ w y, ∃ er : Int, Hp (fun _ => False) z [] [blkA p7 p7 (Cm.cells y w) 10, onA κ w 6 y.ls.length (lnC y.ls), blkA p2 p2 (Cm.zero.cells nil24) 10] s' ∧ restC k l r = (if er ≠ 0 then (Cm.zero, er) else (y, 0)) ∧ Sub [(2, .pointer (some ⟨p2, 0, none⟩)), (7, .pointer (some ⟨p7, 0, none⟩)), (11, .int .i64 er)] L') ?_ ?_)
     · refine Sm.seqW ?_
       conv => whnf
       refine Sm.live [2, 5, 7, 11, 52] ?_
       conv => whnf
       refine Sm.block ?_
       refine Sm.seqW ?_
       conv => whnf
       refine Sm.live [2, 5, 7, 11, 52, 53] ?_
       conv => whnf
       refine Sm.ofW ?_
       conv => whnf
       unfold restC
       by_cases k1 : (k : Int) = 1
       · rw [if_pos k1]
         refine Br.yes (beq_iff_eq.2 k1) ?_
         conv => whnf
         refine hp.call (eread_spec hp.wf (hg.keep hp.fr) r (by omega)) ?_
         intro r1 s hr h1 k1
         obtain ⟨w, rfl, how_⟩ := hr
         obtain ⟨κ, hp⟩ := hp.on k1 how_
         clear h1 k1 how_
         obtain ⟨aw, cw, rfl⟩ := (hp.slF (κ := κ) (v := w) .d).shape
         conv => whnf
         refine hp.store (v := .slice aw (readL r).1.length cw) (off := 8) .d (by show 8 < 10; decide) rfl rfl rfl rfl ?_
         clear hp
         intro s hp _
         conv => whnf
         refine ⟨rfl, κ, .slice aw (readL r).1.length cw, { baseC k l with ls := (readL r).1 }, (readL r).2, ?_, ?_, subK_ok ⟨rfl, rfl, rfl, trivial⟩⟩
         · refine Hp.pik (F := _) (show Hp (fun _ => False) z [] (blkA p7 p7 (Cm.cells { baseC k l with ls := (readL r).1 } (.slice aw (readL r).1.length cw)) 10 :: _) s from hp) (by repeat (first | exact Pik.nil | exact Pik.refl _ | exact Rm.here | apply Rm.there | apply Pik.cons | apply Pik.skip))
         · split <;> rfl
       · rw [if_neg k1]
         refine Br.no (beq_eq_false_iff_ne.2 k1) ?_
         conv => whnf
         by_cases k5 : (k : Int) = 5
         · rw [if_pos k5]
           refine Br.yes (beq_iff_eq.2 k5) ?_
           conv => whnf
           refine hp.call (amount_c hp.wf (hg.keep hp.fr) r (by omega) (fun b hb => ha (by omega) b (cut2_sub b (hsub b hb)))) ?_
           clear hp
           rintro _ s rfl hp _
           conv => whnf
           refine hp.storeA (off := 4) (vs := (amtF r).1.cells) rfl .d (by show 4 + 4 ≤ 10; decide) rfl rfl rfl ?_
           clear hp
           intro s hp _
           conv => whnf
           refine ⟨rfl, none, nil24, { baseC k l with amt := (amtF r).1 }, (amtF r).2, ?_, ?_, subK_ok ⟨rfl, rfl, rfl, trivial⟩⟩
           · refine Hp.pik (F := _) (Hp.nilA (show Hp (fun _ => False) z [] (blkA p7 p7 (Cm.cells { baseC k l with amt := (amtF r).1 } nil24) 10 :: _) s from hp) 6) (by repeat (first | exact Pik.nil | exact Pik.refl _ | exact Rm.here | apply Rm.there | apply Pik.cons | apply Pik.skip))
           · split <;> rfl
         · rw [if_neg k5]
           refine Br.no (beq_eq_false_iff_ne.2 k5) ?_
           conv => whnf
           by_cases k9 : (k : Int) = 9
           · rw [if_pos k9]
             refine Br.yes (beq_iff_eq.2 k9) ?_
             conv => whnf
             refine hp.store (v := sv r) (off := 9) .d (by show 9 < 10; decide) rfl rfl rfl rfl ?_
             clear hp
             intro s hp _
             conv => whnf
             have hp2 : Hp (fun _ => False) z [] [blkA p7 p7 (Cm.cells { baseC k l with txt := r } nil24) 10, onA none nil24 6 0 [], blkA p2 p2 (Cm.zero.cells nil24) 10] s := Hp.pik (F := _) (Hp.nilA (show Hp (fun _ => False) z [] (blkA p7 p7 (Cm.cells { baseC k l with txt := r } nil24) 10 :: _) s from hp) 6) (by repeat (first | exact Pik.nil | exact Pik.refl _ | exact Rm.here | apply Rm.there | apply Pik.cons | apply Pik.skip))
             refine Om.of _ (sv_eq r []) ?_
             conv => whnf
             by_cases hr0 : r = []
             · have q0 : (r == ([] : List UInt8)) = true := beq_iff_eq.2 hr0
               repeat (first | (refine Br.yes q0 ?_; conv => whnf) | ((first | refine Br.y1 ?_ | refine Br.n1 ?_); conv => whnf))
               rw [if_pos (.inl hr0)]
               exact ⟨rfl, none, nil24, { baseC k l with txt := r }, 2, hp2, rfl, subK_ok ⟨rfl, rfl, rfl, trivial⟩⟩
             · have q0 : (r == ([] : List UInt8)) = false := beq_eq_false_iff_ne.2 hr0
               repeat (first | (refine Br.no q0 ?_; conv => whnf) | ((first | refine Br.y1 ?_ | refine Br.n1 ?_); conv => whnf))
               refine (contains1_spec _ r 10).mono ?_
               rintro _ s1 ⟨h1, rfl⟩
               obtain rfl := h1.symm
               conv => whnf
               cases hq : cutQ 10 r with
               | true =>
                 repeat (first | (refine Br.no q0 ?_; conv => whnf) | ((first | refine Br.y1 ?_ | refine Br.n1 ?_); conv => whnf))
                 rw [if_pos (.inr rfl)]
                 exact ⟨rfl, none, nil24, { baseC k l with txt := r }, 2, hp2, rfl, subK_ok ⟨rfl, rfl, rfl, trivial⟩⟩
               | false =>
                 repeat (first | (refine Br.no q0 ?_; conv => whnf) | ((first | refine Br.y1 ?_ | refine Br.n1 ?_); conv => whnf))
                 rw [if_neg (fun h => h.elim hr0 (by decide))]
                 exact ⟨rfl, none, nil24, { baseC k l with txt := r }, 0, hp2, rfl, subK_ok ⟨rfl, rfl, rfl, trivial⟩⟩
           · rw [if_neg k9]
             refine Br.no (beq_eq_false_iff_ne.2 k9) ?_
             conv => whnf
             refine ⟨rfl, none, nil24, baseC k l, 0, ?_, rfl, subK_ok ⟨rfl, rfl, rfl, trivial⟩⟩
             refine Hp.pik (F := _) (Hp.nilA (show Hp (fun _ => False) z [] (blkA p7 p7 (Cm.cells (baseC k l) nil24) 10 :: _) s from hp) 6) (by repeat (first | exact Pik.nil | exact Pik.refl _ | exact Rm.here | apply Rm.there | apply Pik.cons | apply Pik.skip))
     clear hp
     rintro e' L' s ⟨rfl, κ, w, y, er, hp, he, hs⟩
     refine Sm.weak _ hs ?_
     clear hs
     refine Sm.seq ?_
     refine Sm.seqW ?_
     conv => whnf
     refine Sm.live [2, 7, 11, 80] ?_
     conv => whnf
     refine Sm.ofW ?_
     conv => whnf
     by_cases h0 : er = 0
     · subst h0
       refine Br.no (by rfl) ?_
       conv => whnf
       refine Sm.seqW ?_
       conv => whnf
       obtain ⟨aw, cw, rfl⟩ := (hp.slF (κ := κ) (v := w) .d).shape
       refine hp.loadA (l := y.cells (.slice aw y.ls.length cw)) .d rfl (by rfl) rfl rfl ?_
       conv => whnf
       refine hp.storeW (vs := y.cells (.slice aw y.ls.length cw)) rfl .d csx rfl rfl rfl ?_
       clear hp
       intro s hp _
       conv => whnf
       refine Sm.live [2, 3] ?_
       conv => whnf
       refine Sm.ofW ?_
       conv => whnf
       refine hp.loadA (l := y.cells (.slice aw y.ls.length cw)) .d rfl (by rfl) rfl rfl ?_
       conv => whnf
       rw [hrd, he]
       exact ⟨hp.fr, _, rfl, hp.out .d⟩
     · refine Br.yes (by show (!(er == 0)) = true; rw [beq_eq_false_iff_ne.2 h0]; rfl) ?_
       conv => whnf
       refine hp.storeW (vs := Cm.zero.cells nil24) rfl .d csx rfl rfl rfl ?_
       clear hp
       intro s hp _
       conv => whnf
       refine hp.loadA (l := Cm.zero.cells nil24) .d rfl (by rfl) rfl rfl ?_
       conv => whnf
       rw [hrd, he, if_pos h0]
       exact ⟨hp.fr, nil24, rfl, ⟨.inl ⟨rfl, rfl, rfl⟩⟩⟩
end

/- Commands: are two the same? What changes something. No condition. -/
section
variable [Lk]
theorem slEq_spec {z : St} (wf : WF z) {κ κ' : Option Nat} {v w : Value} {a b : List Ln} (hv : Sln z κ v a) (hw : Sln z κ' w b) (ha : a.length ≤ 1000) :
  Cw Tryz.prog 122 [v, w] z fun r s' => K0 z s' ∧ r = .bool (decide (a = b)) := by
 obtain ⟨a1, c1, rfl⟩ := hv.shape
 obtain ⟨a2, c2, rfl⟩ := hw.shape
 have hp : Hp (fun _ => False) z [slA κ (.slice a1 a.length c1) 6 a.length (lnC a), slA κ' (.slice a2 b.length c2) 6 b.length (lnC b)] [] z := Hp.start _ wf _ (by simp; exact ⟨hv, hw⟩)
 refine Cw.enterS Tryz.func122 rfl rfl ?_
 refine Sm.seqW ?_
 conv => whnf
 refine Sm.live [0, 1] ?_
 conv => whnf
 refine Sm.seq ?_
 refine Sm.seqW ?_
 conv => whnf
 refine Sm.live [0, 1, 10] ?_
 conv => whnf
 refine Sm.ofW ?_
 conv => whnf
 by_cases hl : a.length = b.length
 · refine Br.no (by show (!(((a.length : Nat) : Int) == ((b.length : Nat) : Int))) = false; rw [beq_iff_eq.2 (by omega)]; rfl) ?_
   conv => whnf
   refine Sm.seq ?_
   refine Sm.seqW ?_
   conv => whnf
   refine Sm.live [0, 1, 12, 13] ?_
   conv => whnf
   refine Sm.block ?_
   refine Sm.loop ?_
   refine Lp.ofS (α := Nat) (fun i => [(0, .slice a1 a.length c1), (1, .slice a2 b.length c2), (12, .int .i64 ((a.length : Nat) : Int)), (13, .int .i64 (i : Int))])
    (fun i s' => i ≤ a.length ∧ a.take i = b.take i ∧ Hp (fun _ => False) z [slA κ (.slice a1 a.length c1) 6 a.length (lnC a), slA κ' (.slice a2 b.length c2) 6 b.length (lnC b)] [] s') (fun i => a.length - i) ?_ 0 (subK_ok (by refine ⟨rfl, rfl, rfl, rfl, trivial⟩)) ⟨Nat.zero_le _, rfl, hp⟩
   clear hp
   rintro i s ⟨hi, heq, hp⟩
   refine Sm.seqW ?_
   conv => whnf
   refine Sm.live [0, 1, 12, 13, 14] ?_
   conv => whnf
   refine Sm.seq ?_
   refine Sm.ofW ?_
   conv => whnf
   refine Br.mk (fun hc => ?_) (fun hc => ?_)
   · have hc : i < a.length := by have : (i : Int) < ((a.length : Nat) : Int) := of_decide_eq_true hc; omega
     obtain ⟨e1, f1, f2⟩ := index_ln (hp.slR (κ := κ) (v := .slice a1 a.length c1) .here) .i64 hc
     obtain ⟨e2, f3, f4⟩ := index_ln (hp.slR (κ := κ') (v := .slice a2 b.length c2) (.there .here)) .i64 (show i < b.length by omega)
     conv => whnf
     refine Sm.seq ?_
     refine Sm.block ?_
     refine Sm.seqW ?_
     conv => whnf
     refine Sm.live [0, 1, 5, 12, 13] ?_
     conv => whnf
     refine Sm.seqW ?_
     conv => whnf
     refine ⟨[0, 0, 3, 7, 0, 0, 48, 112, 255], by decide +kernel, by decide +kernel, ?_⟩
     conv => whnf
     refine Om.of _ (f1) ?_
     conv => whnf
     refine Om.of _ (f2) ?_
     conv => whnf
     refine Om.of _ (f3) ?_
     conv => whnf
     refine Om.of _ (f4) ?_
     conv => whnf
     refine Om.of _ (ln_ne a[i] (b[i]'(by omega)) _) ?_
     conv => whnf
     refine Sm.live [0, 1, 12, 13, 24] ?_
     conv => whnf
     refine Sm.ofW ?_
     conv => whnf
     have t1 : a.take (i + 1) = a.take i ++ [a[i]] := List.take_succ_eq_append_getElem hc
     have t2 : b.take (i + 1) = b.take i ++ [b[i]'(by omega)] := List.take_succ_eq_append_getElem (by omega)
     cases hq : eqLn a[i] (b[i]'(by omega)) with
     | true =>
       repeat ((first | refine Br.y1 ?_ | refine Br.n1 ?_); conv => whnf)
       refine Sm.ofW ?_
       conv => whnf
       exact ⟨i + 1, by (show a.length - (i + 1) < a.length - i); omega, subK_ok (by refine ⟨rfl, rfl, rfl, congrArg (fun x => some (Value.int .i64 x)) (show IntKind.i64.wrap ((i : Int) + 1) = ((i + 1 : Nat) : Int) by rw [wi64 (by omega) (by omega)]; omega), trivial⟩), by omega, by rw [t1, t2, heq, eqLn_iff.1 hq], hp⟩
     | false =>
       repeat ((first | refine Br.y1 ?_ | refine Br.n1 ?_); conv => whnf)
       refine ⟨hp.fr, congrArg Value.bool (decide_eq_false (fun h => ?_)).symm⟩
       have : a[i] = b[i]'(by omega) := by simp [h]
       rw [eqLn_iff.2 this] at hq; cases hq
   · have hc : i = a.length := by have : ¬ (i : Int) < ((a.length : Nat) : Int) := of_decide_eq_false hc; omega
     subst hc
     rw [List.take_length, hl, List.take_length] at heq
     conv => whnf
     refine Sm.seqW ?_
     conv => whnf
     refine Sm.live [4] ?_
     conv => whnf
     refine Sm.ofW ?_
     conv => whnf
     exact ⟨hp.fr, congrArg Value.bool (decide_eq_true heq).symm⟩
 · refine Br.yes (by show (!(((a.length : Nat) : Int) == ((b.length : Nat) : Int))) = true; rw [beq_eq_false_iff_ne.2 (by omega)]; rfl) ?_
   conv => whnf
   exact ⟨hp.fr, congrArg Value.bool (decide_eq_false (fun h => hl (by rw [h]))).symm⟩
def chgF (v : Int) : Bool := (decide (v ≥ 1) && decide (v ≤ 5)) || v == 10
theorem changes_spec (s : St) (v : Int) : Cw Tryz.prog 33 [.int .i64 v] s fun r s' => s' = s ∧ r = .bool (chgF v) := by
 refine Cw.enterS Tryz.func33 rfl rfl ?_
 refine Sm.seqW ?_
 conv => whnf
 refine Sm.live [0] ?_
 conv => whnf
 refine Sm.ofW ?_
 conv => whnf
 unfold chgF
 by_cases h1 : v ≥ 1
 · have q1 : decide (v ≥ 1) = true := decide_eq_true h1
   repeat (first | (refine Br.yes q1 ?_; conv => whnf) | ((first | refine Br.y1 ?_ | refine Br.n1 ?_); conv => whnf))
   by_cases h2 : v ≤ 5
   · have q2 : decide (v ≤ 5) = true := decide_eq_true h2
     repeat (first | (refine Br.yes q1 ?_; conv => whnf) | (refine Br.yes q2 ?_; conv => whnf) | ((first | refine Br.y1 ?_ | refine Br.n1 ?_); conv => whnf))
     exact ⟨rfl, congrArg Value.bool (by rw [q1, q2]; rfl)⟩
   · have q2 : decide (v ≤ 5) = false := decide_eq_false h2
     repeat (first | (refine Br.yes q1 ?_; conv => whnf) | (refine Br.no q2 ?_; conv => whnf) | ((first | refine Br.y1 ?_ | refine Br.n1 ?_); conv => whnf))
     exact ⟨rfl, congrArg Value.bool (by rw [q1, q2]; rfl)⟩
 · have q1 : decide (v ≥ 1) = false := decide_eq_false h1
   repeat (first | (refine Br.no q1 ?_; conv => whnf) | ((first | refine Br.y1 ?_ | refine Br.n1 ?_); conv => whnf))
   exact ⟨rfl, congrArg Value.bool (by rw [q1]; rfl)⟩
def eqC (x y : Cm) : Bool := x.v == y.v && (x.a == y.a && (x.b == y.b && (x.c == y.c && (eqD x.amt y.amt && (x.txt == y.txt && decide (x.ls = y.ls))))))
theorem csame_spec {z : St} (wf : WF z) {x y : Cm} (hx : x.amt.c < w128) (hy : y.amt.c < w128) {κ κ' : Option Nat} {v w : Value} (hv : Sln z κ v x.ls) (hw : Sln z κ' w y.ls) (hl : x.ls.length ≤ 1000) :
  Cw Tryz.prog 81 [x.val v, y.val w] z fun r s' => K0 z s' ∧ r = .bool (eqC x y) := by
 obtain ⟨a1, c1, rfl⟩ := hv.shape
 obtain ⟨a2, c2, rfl⟩ := hw.shape
 have hp : Hp (fun _ => False) z [slA κ (.slice a1 x.ls.length c1) 6 x.ls.length (lnC x.ls), slA κ' (.slice a2 y.ls.length c2) 6 y.ls.length (lnC y.ls)] [] z := Hp.start _ wf _ (by simp; exact ⟨hv, hw⟩)
 refine Cw.enterS Tryz.func81 rfl rfl ?_
 refine Sm.seqW ?_
 conv => whnf
 refine hp.var (cs := x.cells (.slice a1 x.ls.length c1)) (e := 10) rfl rfl ?_
 clear hp
 intro p2 s hp _
 conv => whnf
 refine hp.var (cs := y.cells (.slice a2 y.ls.length c2)) (e := 10) rfl rfl ?_
 clear hp
 intro p3 s hp _
 conv => whnf
 refine Sm.live [2, 3] ?_
 conv => whnf
 refine Sm.seqW ?_
 conv => whnf
 refine hp.load (v := .int .i64 x.v) .d (by rfl) rfl rfl rfl ?_
 conv => whnf
 refine hp.load (v := .int .i64 y.v) .d (by rfl) rfl rfl rfl ?_
 conv => whnf
 cases qv : x.v == y.v with
 | false =>
   repeat (first | (refine Br.no qv ?_; conv => whnf) | ((first | refine Br.y1 ?_ | refine Br.n1 ?_); conv => whnf))
   refine Sm.live [4] ?_
   conv => whnf
   refine Sm.ofW ?_
   conv => whnf
   exact ⟨hp.fr, congrArg Value.bool (by unfold eqC; rw [qv]; rfl)⟩
 | true =>
 repeat (first | (refine Br.yes qv ?_; conv => whnf) | ((first | refine Br.y1 ?_ | refine Br.n1 ?_); conv => whnf))
 refine hp.load (v := .int .i64 x.a) .d (by rfl) rfl rfl rfl ?_
 conv => whnf
 repeat (first | (refine Br.yes qv ?_; conv => whnf) | ((first | refine Br.y1 ?_ | refine Br.n1 ?_); conv => whnf))
 refine hp.load (v := .int .i64 y.a) .d (by rfl) rfl rfl rfl ?_
 conv => whnf
 repeat (first | (refine Br.yes qv ?_; conv => whnf) | ((first | refine Br.y1 ?_ | refine Br.n1 ?_); conv => whnf))
 cases qa : x.a == y.a with
 | false =>
   repeat (first | (refine Br.yes qv ?_; conv => whnf) | (refine Br.no qa ?_; conv => whnf) | ((first | refine Br.y1 ?_ | refine Br.n1 ?_); conv => whnf))
   refine Sm.live [4] ?_
   conv => whnf
   refine Sm.ofW ?_
   conv => whnf
   exact ⟨hp.fr, congrArg Value.bool (by unfold eqC; rw [qv, qa]; rfl)⟩
 | true =>
 repeat (first | (refine Br.yes qv ?_; conv => whnf) | (refine Br.yes qa ?_; conv => whnf) | ((first | refine Br.y1 ?_ | refine Br.n1 ?_); conv => whnf))
 refine hp.load (v := .int .i64 x.b) .d (by rfl) rfl rfl rfl ?_
 conv => whnf
 repeat (first | (refine Br.yes qv ?_; conv => whnf) | (refine Br.yes qa ?_; conv => whnf) | ((first | refine Br.y1 ?_ | refine Br.n1 ?_); conv => whnf))
 refine hp.load (v := .int .i64 y.b) .d (by rfl) rfl rfl rfl ?_
 conv => whnf
 repeat (first | (refine Br.yes qv ?_; conv => whnf) | (refine Br.yes qa ?_; conv => whnf) | ((first | refine Br.y1 ?_ | refine Br.n1 ?_); conv => whnf))
 cases qb : x.b == y.b with
 | false =>
   repeat (first | (refine Br.yes qv ?_; conv => whnf) | (refine Br.yes qa ?_; conv => whnf) | (refine Br.no qb ?_; conv => whnf) | ((first | refine Br.y1 ?_ | refine Br.n1 ?_); conv => whnf))
   refine Sm.live [4] ?_
   conv => whnf
   refine Sm.ofW ?_
   conv => whnf
   exact ⟨hp.fr, congrArg Value.bool (by unfold eqC; rw [qv, qa, qb]; rfl)⟩
 | true =>
 repeat (first | (refine Br.yes qv ?_; conv => whnf) | (refine Br.yes qa ?_; conv => whnf) | (refine Br.yes qb ?_; conv => whnf) | ((first | refine Br.y1 ?_ | refine Br.n1 ?_); conv => whnf))
 refine hp.load (v := .int .i64 x.c) .d (by rfl) rfl rfl rfl ?_
 conv => whnf
 repeat (first | (refine Br.yes qv ?_; conv => whnf) | (refine Br.yes qa ?_; conv => whnf) | (refine Br.yes qb ?_; conv => whnf) | ((first | refine Br.y1 ?_ | refine Br.n1 ?_); conv => whnf))
 refine hp.load (v := .int .i64 y.c) .d (by rfl) rfl rfl rfl ?_
 conv => whnf
 repeat (first | (refine Br.yes qv ?_; conv => whnf) | (refine Br.yes qa ?_; conv => whnf) | (refine Br.yes qb ?_; conv => whnf) | ((first | refine Br.y1 ?_ | refine Br.n1 ?_); conv => whnf))
 cases qc : x.c == y.c with
 | false =>
   repeat (first | (refine Br.yes qv ?_; conv => whnf) | (refine Br.yes qa ?_; conv => whnf) | (refine Br.yes qb ?_; conv => whnf) | (refine Br.no qc ?_; conv => whnf) | ((first | refine Br.y1 ?_ | refine Br.n1 ?_); conv => whnf))
   refine Sm.live [4] ?_
   conv => whnf
   refine Sm.ofW ?_
   conv => whnf
   exact ⟨hp.fr, congrArg Value.bool (by unfold eqC; rw [qv, qa, qb, qc]; rfl)⟩
 | true =>
 repeat (first | (refine Br.yes qv ?_; conv => whnf) | (refine Br.yes qa ?_; conv => whnf) | (refine Br.yes qb ?_; conv => whnf) | (refine Br.yes qc ?_; conv => whnf) | ((first | refine Br.y1 ?_ | refine Br.n1 ?_); conv => whnf))
 refine hp.loadA (l := x.amt.cells) .d rfl (by rfl) rfl rfl ?_
 conv => whnf
 repeat (first | (refine Br.yes qv ?_; conv => whnf) | (refine Br.yes qa ?_; conv => whnf) | (refine Br.yes qb ?_; conv => whnf) | (refine Br.yes qc ?_; conv => whnf) | ((first | refine Br.y1 ?_ | refine Br.n1 ?_); conv => whnf))
 refine hp.loadA (l := y.amt.cells) .d rfl (by rfl) rfl rfl ?_
 conv => whnf
 repeat (first | (refine Br.yes qv ?_; conv => whnf) | (refine Br.yes qa ?_; conv => whnf) | (refine Br.yes qb ?_; conv => whnf) | (refine Br.yes qc ?_; conv => whnf) | ((first | refine Br.y1 ?_ | refine Br.n1 ?_); conv => whnf))
 refine Om.of _ (dc_eq x.amt y.amt _) ?_
 conv => whnf
 repeat (first | (refine Br.yes qv ?_; conv => whnf) | (refine Br.yes qa ?_; conv => whnf) | (refine Br.yes qb ?_; conv => whnf) | (refine Br.yes qc ?_; conv => whnf) | ((first | refine Br.y1 ?_ | refine Br.n1 ?_); conv => whnf))
 cases qm : eqD x.amt y.amt with
 | false =>
   repeat (first | (refine Br.yes qv ?_; conv => whnf) | (refine Br.yes qa ?_; conv => whnf) | (refine Br.yes qb ?_; conv => whnf) | (refine Br.yes qc ?_; conv => whnf) | (refine Br.no qm ?_; conv => whnf) | ((first | refine Br.y1 ?_ | refine Br.n1 ?_); conv => whnf))
   refine Sm.live [4] ?_
   conv => whnf
   refine Sm.ofW ?_
   conv => whnf
   exact ⟨hp.fr, congrArg Value.bool (by unfold eqC; rw [qv, qa, qb, qc, qm]; rfl)⟩
 | true =>
 repeat (first | (refine Br.yes qv ?_; conv => whnf) | (refine Br.yes qa ?_; conv => whnf) | (refine Br.yes qb ?_; conv => whnf) | (refine Br.yes qc ?_; conv => whnf) | (refine Br.yes qm ?_; conv => whnf) | ((first | refine Br.y1 ?_ | refine Br.n1 ?_); conv => whnf))
 refine hp.load (v := sv x.txt) .d (by rfl) rfl rfl rfl ?_
 conv => whnf
 repeat (first | (refine Br.yes qv ?_; conv => whnf) | (refine Br.yes qa ?_; conv => whnf) | (refine Br.yes qb ?_; conv => whnf) | (refine Br.yes qc ?_; conv => whnf) | (refine Br.yes qm ?_; conv => whnf) | ((first | refine Br.y1 ?_ | refine Br.n1 ?_); conv => whnf))
 refine hp.load (v := sv y.txt) .d (by rfl) rfl rfl rfl ?_
 conv => whnf
 repeat (first | (refine Br.yes qv ?_; conv => whnf) | (refine Br.yes qa ?_; conv => whnf) | (refine Br.yes qb ?_; conv => whnf) | (refine Br.yes qc ?_; conv => whnf) | (refine Br.yes qm ?_; conv => whnf) | ((first | refine Br.y1 ?_ | refine Br.n1 ?_); conv => whnf))
 refine Om.of _ (sv_eq x.txt y.txt) ?_
 conv => whnf
 repeat (first | (refine Br.yes qv ?_; conv => whnf) | (refine Br.yes qa ?_; conv => whnf) | (refine Br.yes qb ?_; conv => whnf) | (refine Br.yes qc ?_; conv => whnf) | (refine Br.yes qm ?_; conv => whnf) | ((first | refine Br.y1 ?_ | refine Br.n1 ?_); conv => whnf))
 cases qt : x.txt == y.txt with
 | false =>
   repeat (first | (refine Br.yes qv ?_; conv => whnf) | (refine Br.yes qa ?_; conv => whnf) | (refine Br.yes qb ?_; conv => whnf) | (refine Br.yes qc ?_; conv => whnf) | (refine Br.yes qm ?_; conv => whnf) | (refine Br.no qt ?_; conv => whnf) | ((first | refine Br.y1 ?_ | refine Br.n1 ?_); conv => whnf))
   refine Sm.live [4] ?_
   conv => whnf
   refine Sm.ofW ?_
   conv => whnf
   exact ⟨hp.fr, congrArg Value.bool (by unfold eqC; rw [qv, qa, qb, qc, qm, qt]; rfl)⟩
 | true =>
 repeat (first | (refine Br.yes qv ?_; conv => whnf) | (refine Br.yes qa ?_; conv => whnf) | (refine Br.yes qb ?_; conv => whnf) | (refine Br.yes qc ?_; conv => whnf) | (refine Br.yes qm ?_; conv => whnf) | (refine Br.yes qt ?_; conv => whnf) | ((first | refine Br.y1 ?_ | refine Br.n1 ?_); conv => whnf))
 refine hp.load (v := .slice a1 x.ls.length c1) .d (by rfl) rfl rfl rfl ?_
 conv => whnf
 repeat (first | (refine Br.yes qv ?_; conv => whnf) | (refine Br.yes qa ?_; conv => whnf) | (refine Br.yes qb ?_; conv => whnf) | (refine Br.yes qc ?_; conv => whnf) | (refine Br.yes qm ?_; conv => whnf) | (refine Br.yes qt ?_; conv => whnf) | ((first | refine Br.y1 ?_ | refine Br.n1 ?_); conv => whnf))
 refine hp.load (v := .slice a2 y.ls.length c2) .d (by rfl) rfl rfl rfl ?_
 conv => whnf
 repeat (first | (refine Br.yes qv ?_; conv => whnf) | (refine Br.yes qa ?_; conv => whnf) | (refine Br.yes qb ?_; conv => whnf) | (refine Br.yes qc ?_; conv => whnf) | (refine Br.yes qm ?_; conv => whnf) | (refine Br.yes qt ?_; conv => whnf) | ((first | refine Br.y1 ?_ | refine Br.n1 ?_); conv => whnf))
 refine hp.call (slEq_spec hp.wf (hp.slR (κ := κ) (v := .slice a1 x.ls.length c1) .here) (hp.slR (κ := κ') (v := .slice a2 y.ls.length c2) (.there .here)) hl) ?_
 clear hp
 rintro _ s rfl hp _
 conv => whnf
 repeat (first | (refine Br.yes qv ?_; conv => whnf) | (refine Br.yes qa ?_; conv => whnf) | (refine Br.yes qb ?_; conv => whnf) | (refine Br.yes qc ?_; conv => whnf) | (refine Br.yes qm ?_; conv => whnf) | (refine Br.yes qt ?_; conv => whnf) | ((first | refine Br.y1 ?_ | refine Br.n1 ?_); conv => whnf))
 refine Sm.live [4] ?_
 conv => whnf
 refine Sm.ofW ?_
 conv => whnf
 exact ⟨hp.fr, congrArg Value.bool (by unfold eqC; rw [qv, qa, qb, qc, qm, qt]; rfl)⟩
end

/- Numbers of three digits, or below nothing, as text: what is said is only that it is a short text. No condition but that a listed table is as it is laid. -/
section
variable [Lk]
def len10 (u : Nat) : Nat := if u < 1 then 0 else if u < 2 then 1 else if u < 4 then 2 else if u < 8 then 3 else if u < 16 then 4 else if u < 32 then 5 else if u < 64 then 6 else if u < 128 then 7 else if u < 256 then 8 else if u < 512 then 9 else 10
def len8T : List UInt8 := (List.range 256).map fun n => UInt8.ofNat (len10 n)
theorem len8T_len : len8T.length = 256 := by simp [len8T]
theorem len8T_at : ∀ n, (h : n < len8T.length) → (len8T[n]'h).toNat = len10 n := by decide +kernel
theorem len10_shift : ∀ u, u < 1024 → 256 ≤ u → 8 + len10 (u / 256) = len10 u := by decide +kernel
theorem len10_le : ∀ u, u < 1024 → len10 u ≤ 10 := by decide +kernel
theorem bool2_spec (s : St) (b : Bool) : Cw Tryz.prog 179 [.bool b] s fun r s' => s' = s ∧ r = .int .i64 (if b = true then 1 else 0) := by
 refine Cw.enterS Tryz.func179 rfl rfl ?_
 refine Sm.seqW ?_
 conv => whnf
 refine Sm.seq ?_
 refine Sm.seqW ?_
 conv => whnf
 refine Sm.ofW ?_
 conv => whnf
 cases b with
 | true =>
   repeat ((first | refine Br.y1 ?_ | refine Br.n1 ?_); conv => whnf)
   exact ⟨rfl, rfl⟩
 | false =>
   repeat ((first | refine Br.y1 ?_ | refine Br.n1 ?_); conv => whnf)
   refine Sm.seqW ?_
   conv => whnf
   refine Sm.ofW ?_
   conv => whnf
   exact ⟨rfl, rfl⟩
theorem len64_spec (s : St) {u : Nat} (hu : u < 1024) : Cw Tryz.prog 178 [.int .u64 (u : Int)] s fun r s' => s' = s ∧ r = .int .i64 (len10 u : Int) := by
 refine Cw.enterS Tryz.func178 rfl rfl ?_
 refine Sm.seqW ?_
 conv => whnf
 refine Sm.live [0, 2] ?_
 conv => whnf
 have q1 : decide ((u : Int) ≥ 4294967296) = false := decide_eq_false (by omega)
 have q2 : decide ((u : Int) ≥ 65536) = false := decide_eq_false (by omega)
 refine Sm.seq ?_
 refine Sm.seqW ?_
 conv => whnf
 refine Sm.live [0, 2, 4] ?_
 conv => whnf
 refine Sm.ofW ?_
 conv => whnf
 refine Br.no q1 ?_
 conv => whnf
 refine Sm.seq ?_
 refine Sm.seqW ?_
 conv => whnf
 refine Sm.live [0, 2, 8] ?_
 conv => whnf
 refine Sm.ofW ?_
 conv => whnf
 refine Br.no q2 ?_
 conv => whnf
 refine Sm.seq ?_
 refine Sm.seqW ?_
 conv => whnf
 refine Sm.live [0, 2, 14] ?_
 conv => whnf
 refine Sm.ofW ?_
 conv => whnf
 by_cases h3 : u < 256
 · have q3 : decide ((u : Int) ≥ 256) = false := decide_eq_false (by omega)
   refine Br.no q3 ?_
   conv => whnf
   refine Sm.seqW ?_
   conv => whnf
   have e1 : IntKind.u8.wrap (u : Int) = (u : Int) := by show (u : Int) % 256 = _; omega
   rw [e1]
   have hl := len8T_len
   refine Om.of _ (str_index Tryz.underlying9 (l := len8T) (i := u) (by omega) .u8) ?_
   conv => whnf
   rw [len8T_at u (by omega)]
   have hk := len10_le u hu
   generalize len10 u = m at *
   refine Sm.ofW ?_
   conv => whnf
   refine ⟨rfl, congrArg (Value.int .i64) ?_⟩
   show IntKind.i64.wrap (0 + IntKind.i64.wrap (m : Int)) = _
   rw [wi64 (n := (m : Int)) (by omega) (by omega), wi64 (by omega) (by omega)]; omega
 · have q3 : decide ((u : Int) ≥ 256) = true := decide_eq_true (by omega)
   refine Br.yes q3 ?_
   conv => whnf
   refine Om.of _ (shr_u64k (n := u) (k := 8) (by omega) (by decide)) ?_
   conv => whnf
   refine Sm.seqW ?_
   conv => whnf
   have e1 : IntKind.u8.wrap ((u / 2 ^ 8 : Nat) : Int) = ((u / 256 : Nat) : Int) := by show ((u / 256 : Nat) : Int) % 256 = _; omega
   rw [e1]
   have hl := len8T_len
   refine Om.of _ (str_index Tryz.underlying9 (l := len8T) (i := u / 256) (by omega) .u8) ?_
   conv => whnf
   rw [len8T_at (u / 256) (by omega)]
   have hs := len10_shift u hu (by omega)
   have hk := len10_le u hu
   rw [← hs]
   generalize len10 (u / 256) = m at *
   refine Sm.ofW ?_
   conv => whnf
   refine ⟨rfl, congrArg (Value.int .i64) ?_⟩
   show IntKind.i64.wrap (IntKind.i64.wrap (0 + 8) + IntKind.i64.wrap (m : Int)) = _
   rw [wi64 (n := (m : Int)) (by omega) (by omega), wi64 (n := 0 + 8) (by decide) (by decide), wi64 (by omega) (by omega)]; omega
theorem log10_spec (s : St) {m : Nat} (hm : m ≤ 10) : Cw Tryz.prog 177 [.int .i64 (m : Int)] s fun r s' => s' = s ∧ r = .int .i64 ((m * 78913 / 262144 : Nat) : Int) := by
 refine Cw.enterS Tryz.func177 rfl rfl ?_
 refine Sm.seqW ?_
 conv => whnf
 refine Sm.seqW ?_
 conv => whnf
 have h11 : m = 0 ∨ m = 1 ∨ m = 2 ∨ m = 3 ∨ m = 4 ∨ m = 5 ∨ m = 6 ∨ m = 7 ∨ m = 8 ∨ m = 9 ∨ m = 10 := by omega
 refine Om.of (.int .i64 ((m * 78913 / 262144 : Nat) : Int)) (by rcases h11 with rfl | rfl | rfl | rfl | rfl | rfl | rfl | rfl | rfl | rfl | rfl <;> kernel_rfl) ?_
 conv => whnf
 refine Sm.ofW ?_
 conv => whnf
 exact ⟨rfl, rfl⟩
def p10C : List Value := (List.range 20).map fun i => .int .u64 ((10 ^ i : Nat) : Int)
structure Gt (s : St) : Prop where
 ex : ∃ i, Lk.gl 1 = some i ∧ Ro s i p10C 1
theorem Gt.keep {X : Nat → Prop} {s s' : St} (h : Gt s) (k : Kp X s s') : Gt s' := by
 obtain ⟨i, h1, h2⟩ := h.ex
 exact ⟨i, h1, k.ro _ _ _ h2⟩
def dig3 (u : Nat) : Nat := if u < 10 then 1 else if u < 100 then 2 else 3
theorem dig3_at : ∀ u, u < 1000 → 1 ≤ u → len10 u * 78913 / 262144 ≤ 3 ∧ len10 u * 78913 / 262144 + (if 10 ^ (len10 u * 78913 / 262144) ≤ u then 1 else 0) = dig3 u := by decide +kernel
theorem numDigits_spec {s : St} (hg : Gt s) {u : Nat} (hu1 : 1 ≤ u) (hu : u < 1000) : Cw Tryz.prog 151 [.int .u64 (u : Int)] s fun r s' => s' = s ∧ r = .int .i64 (dig3 u : Int) := by
 obtain ⟨i, hi, hro⟩ := hg.ex
 refine Cw.enterS Tryz.func151 rfl rfl ?_
 refine Sm.seqW ?_
 conv => whnf
 refine Sm.seqW ?_
 conv => whnf
 refine (len64_spec _ (show u < 1024 by omega)).mono ?_
 rintro _ s1 ⟨h1, rfl⟩
 obtain rfl := h1.symm
 conv => whnf
 have hk := len10_le u (by omega)
 refine (log10_spec _ hk).mono ?_
 rintro _ s1 ⟨h1, rfl⟩
 obtain rfl := h1.symm
 conv => whnf
 obtain ⟨d1, d2⟩ := dig3_at u hu hu1
 generalize len10 u * 78913 / 262144 = m at *
 refine Sm.live [0, 3] ?_
 conv => whnf
 refine Sm.seqW ?_
 conv => whnf
 rw [opl_gl hi]
 conv => whnf
 have hix : evIndexAddr Tryz.prog 223 (.pointer (some ⟨i, 0, none⟩)) (.int .i64 (m : Int)) = some (.pointer (some ⟨i, 0 + m, none⟩)) := ixA Tryz.underlying223 (by rfl) rfl .i64 (by omega)
 refine Om.of _ (hix) ?_
 conv => whnf
 refine Om.of _ (load_cell (v := .int .u64 ((10 ^ m : Nat) : Int)) Tryz.underlying26 rfl rfl hro.rd (by rw [Nat.zero_add]; unfold p10C; rw [List.getElem?_map, List.getElem?_range (by omega)]; rfl)) ?_
 conv => whnf
 refine (bool2_spec _ _).mono ?_
 rintro _ s1 ⟨h1, rfl⟩
 obtain rfl := h1.symm
 conv => whnf
 refine Sm.ofW ?_
 conv => whnf
 refine ⟨rfl, congrArg (Value.int .i64) ?_⟩
 rw [← d2]
 have e : (if decide ((u : Int) ≥ ((10 ^ m : Nat) : Int)) = true then (1 : Int) else 0) = ((if 10 ^ m ≤ u then 1 else 0 : Nat) : Int) := by
  by_cases h : 10 ^ m ≤ u
  · rw [if_pos h, if_pos (decide_eq_true (by exact_mod_cast h))]; rfl
  · rw [if_neg h, if_neg (by rw [decide_eq_false (by exact_mod_cast h)]; decide)]; rfl
 rw [e]
 have hb : (if 10 ^ m ≤ u then 1 else 0 : Nat) ≤ 1 := by split <;> omega
 rw [wi64 (by omega) (by omega)]
 omega
end

/- From the two listed errors to the first state. No condition. -/
section
variable [Lk]
theorem var_heap {P : Program} {W : World} {n : String} {g : Nat} {v : Value} (hg : P.globalNamed n = some g) (h : W.var? P n = some #[v]) : ∃ t fr, W.heap[g]? = some (.cells #[v] t fr) := by
 unfold World.var? at h
 rw [hg] at h
 simp only [Option.bind_some] at h
 split at h
 · rename_i cs t fr hh
   injection h with h
   subst h
   exact ⟨t, fr, hh⟩
 · cases h
def gsB : List (List Value × Nat) := [([.chan none], 1), ([.chan none], 1)]
end

/- From slices among the arguments, and the two listed errors, to the first state. No condition. -/
section
variable [Lk]
end

/- From the two listed errors and a listed table, and slices among the arguments, to the first state. No condition. -/
section
variable [Lk]
theorem var_heapC {P : Program} {W : World} {n : String} {g : Nat} {cs : Array Value} (hg : P.globalNamed n = some g) (h : W.var? P n = some cs) : ∃ t fr, W.heap[g]? = some (.cells cs t fr) := by
 unfold World.var? at h
 rw [hg] at h
 simp only [Option.bind_some] at h
 split at h
 · rename_i cs t fr hh
   injection h with h
   subst h
   exact ⟨t, fr, hh⟩
 · cases h
theorem tab_heap {n0 : String} {ns : List Int} {r : List (String × DataW Unit)} {W : World} {g : Nat} (hlen : ns.length = 20) (h : laidMet Tryz.prog ((n0, .agg (ns.map fun n => .lit (.int .u64 n))) :: r) W)
  (hg : Tryz.prog.globalNamed n0 = some g) (ht : (Tryz.prog.globals[g]?).map (·.type) = some 223) :
  ∃ C t fr, W.heap[g]? = some (.cells C t fr) ∧ ∀ j, j < 20 → C[j]? = some (.int .u64 (ns.getD j 0)) := by
 obtain ⟨ps, ⟨g1, t, cs, fuel, p, q, hg1, ht1, hv, hd, _, _⟩, _, _⟩ := h
 obtain rfl := Option.some.inj (hg.symm.trans hg1)
 obtain rfl := Option.some.inj (ht.symm.trans ht1)
 obtain ⟨xs, m, _, ex, _, hl, hel⟩ := DataW.trod_array Tryz.underlying223 hd
 have c5 : Tryz.prog.cellsOf 26 = 1 := by kernel_rfl
 obtain ⟨t2, fr, hh⟩ := var_heapC hg hv
 refine ⟨cs, t2, fr, hh, fun r hr => ?_⟩
 have hE := hel r hr
 rw [c5, Nat.mul_one, List.getElem?_eq_getElem (by omega)] at hE
 obtain ⟨z, e1, e2, _⟩ := DataW.trod_int Tryz.underlying26 hE
 have e3 : (xs.map (·.1)) = ns.map fun n => .lit (.int .u64 n) := (DataW.agg.inj (Prod.mk.inj ex).1).symm
 have e4 : (xs.map (·.1))[r]? = (ns.map fun n => (DataW.lit (.int .u64 n) : DataW Unit))[r]? := by rw [e3]
 rw [List.getElem?_map, List.getElem?_map, List.getElem?_eq_getElem (by omega : r < xs.length), List.getElem?_eq_getElem (by omega : r < ns.length), e2] at e4
 have hz : z = ns.getD r 0 := by
  simp only [Option.map_some, Option.some.injEq, DataW.lit.injEq, Lit.int.injEq, true_and] at e4
  rw [e4, List.getD, List.getElem?_eq_getElem (by omega : r < ns.length)]; rfl
 have : cs.toList[r]? = some (.int .u64 z) := by
  have h0 : ((cs.toList.drop r).take 1)[0]? = some (.int .u64 z) := by rw [e1]; rfl
  simpa using h0
 rw [← hz]
 simpa using this
def tens : List Int := (List.range 20).map fun i => ((10 ^ i : Nat) : Int)
theorem p10_get : ∀ j, j < 20 → p10C[j]? = some (.int .u64 (tens.getD j 0)) := by
 intro j hj
 unfold p10C tens
 rw [List.getElem?_map, List.getElem?_range hj, List.getD, List.getElem?_map, List.getElem?_range hj]; rfl
abbrev lkT (k a b c : Nat) : Lk := ⟨fun g => if g = a then some k else if g = b then some (k + 1) else if g = c then some (k + 2) else none⟩
def gsT : List (List Value × Nat) := gsB ++ [(p10C, 1)]
def betaT (k : Nat) (vs : List (Value × Nat)) (a b c : Nat) : B := fun i => if i = k then some ⟨a, 0, 1, 1⟩ else if i = k + 1 then some ⟨b, 0, 1, 1⟩ else if i = k + 2 then some ⟨c, 0, 1, 20⟩ else betaOf vs i
theorem hglT (k : Nat) (vs : List (Value × Nat)) (a b c : Nat) : ∀ g i, (lkT k a b c).gl g = some i → ∃ e l, betaT k vs a b c i = some ⟨g, 0, e, l⟩ := by
 intro g i h
 unfold lkT at h
 simp only at h
 split at h
 · rename_i e
   injection h with h; subst h e
   exact ⟨1, 1, by unfold betaT; rw [if_pos rfl]⟩
 · split at h
   · rename_i _ e
     injection h with h; subst h e
     exact ⟨1, 1, by unfold betaT; rw [if_neg (by omega), if_pos rfl]⟩
   · split at h
     · rename_i _ _ e
       injection h with h; subst h e
       exact ⟨1, 20, by unfold betaT; rw [if_neg (by omega), if_neg (by omega), if_pos rfl]⟩
     · cases h
theorem betaT_ok {W : World} {a b c k : Nat} {vs : List (Value × Nat)} {bs : List (List Value × Nat)} (hk : bs.length = k) (hc : ∀ (i : Nat) (v : Value) (e : Nat), vs[i]? = some (v, e) → ∃ n cs, bs[i]? = some (cs, e) ∧ CArg W v e n cs)
  {ta tb tc td : TypeId} {fa fb : Nat × Nat} {va vb : Value} (ha : W.heap[a]? = some (.cells #[.iface ta va] tc fa)) (hb : W.heap[b]? = some (.cells #[.iface tb vb] td fb))
  {C : Array Value} {te : TypeId} {fe : Nat × Nat} (hcc : W.heap[c]? = some (.cells C te fe)) (hcv : ∀ j, j < 20 → C[j]? = p10C[j]?) :
  ∀ i bi, betaT k vs a b c i = some bi → ∃ cs e C t fr, (bs ++ gsT)[i]? = some (cs, e) ∧ bi.esz = e ∧ W.heap[bi.blk]? = some (.cells C t fr) ∧ ∀ (j : Nat) (v : Value), cs[j]? = some v → ∃ v', C[j + bi.sh]? = some v' ∧ VR (betaT k vs a b c) v v' := by
 have one : ∀ (x : Value) (j : Nat) (v : Value), ([Value.chan none] : List Value)[j]? = some v → ∀ {t : TypeId}, ∃ v', (#[Value.iface t x] : Array Value)[j + 0]? = some v' ∧ VR (betaT k vs a b c) v v' := by
  intro x j v h t
  cases j with
  | zero => injection h with h; subst h; exact ⟨_, rfl, .junkI _ _⟩
  | succ j => cases h
 intro i bi h
 unfold betaT at h
 split at h
 · rename_i e
   injection h with h; subst h e
   exact ⟨_, _, _, _, _, by rw [List.getElem?_append_right (by omega), ← hk, Nat.sub_self]; rfl, rfl, ha, fun j v hv => one _ j v hv⟩
 · split at h
   · rename_i _ e
     injection h with h; subst h e
     exact ⟨_, _, _, _, _, by rw [List.getElem?_append_right (by omega), ← hk, show bs.length + 1 - bs.length = 1 by omega]; rfl, rfl, hb, fun j v hv => one _ j v hv⟩
   · split at h
     · rename_i _ _ e
       injection h with h; subst h e
       refine ⟨_, _, _, _, _, by rw [List.getElem?_append_right (by omega), ← hk, show bs.length + 2 - bs.length = 2 by omega]; rfl, rfl, hcc, fun j v hv => ?_⟩
       have hj : j < 20 := by
        rcases Nat.lt_or_ge j 20 with g | g
        · exact g
        · rw [List.getElem?_eq_none (by show p10C.length ≤ j; simp [p10C]; exact g)] at hv; cases hv
       refine ⟨v, by rw [Nat.add_zero, hcv j hj]; exact hv, ?_⟩
       unfold p10C at hv
       rw [List.getElem?_map, List.getElem?_range hj] at hv
       injection hv with hv
       subst hv
       exact .int _ _
     · unfold betaOf at h
       cases hv : vs[i]? with
       | none => rw [hv] at h; cases h
       | some p =>
         obtain ⟨v, e⟩ := p
         rw [hv] at h
         simp only [Option.bind_some] at h
         obtain ⟨n, cs, h1, h2⟩ := hc i v e hv
         rcases h2.ex with ⟨rfl, _, _⟩ | ⟨a, cap, C, t, fr, rfl, h3, h4, h5, h6, h7⟩
         · cases h
         · simp only [biOf] at h
           injection h with h
           subst h
           have hlt : i < bs.length := by
            rcases Nat.lt_or_ge i bs.length with g | g
            · exact g
            · rw [List.getElem?_eq_none g] at h1; cases h1
           refine ⟨cs, e, C, t, fr, by rw [List.getElem?_append_left hlt]; exact h1, rfl, h6, fun i v hv => ⟨v, h7 i v hv, ?_⟩⟩
           exact closedV_VR _ 6 _ (h2.closed v (List.mem_of_getElem? hv))
end

/- Numbers of three digits, or below nothing, as text: formatBase10, Itoa. No condition but that a listed table is as it is laid. -/
section
variable [Lk]
theorem quo_u32 {P : Program} {t : TypeId} {cst : Bool} {n m : Nat} (hm : 0 < m) (hn : n < 4294967296) : evBin P .quo t cst (.int .u32 (n : Int)) (.int .u32 (m : Int)) = some (.int .u32 ((n / m : Nat) : Int)) := by
 show (match decide ((m : Int) = 0) with
  | true => none
  | false => some (Value.int .u32 (IntKind.u32.wrap ((n : Int).tdiv (m : Int))))) = _
 rw [decide_eq_false (by omega)]
 have e : ((n : Int).tdiv (m : Int)) = ((n / m : Nat) : Int) := rfl
 have hd : n / m ≤ n := Nat.div_le_self _ _
 rw [e]
 generalize n / m = x at *
 have : IntKind.u32.wrap (x : Int) = (x : Int) := by show (x : Int) % 4294967296 = _; omega
 simp only [this]
theorem rem_u32 {P : Program} {t : TypeId} {cst : Bool} {n m : Nat} (hm : 0 < m) : evBin P .rem t cst (.int .u32 (n : Int)) (.int .u32 (m : Int)) = some (.int .u32 ((n % m : Nat) : Int)) := by
 show (match decide ((m : Int) = 0) with
  | true => none
  | false => some (Value.int .u32 ((n : Int).tmod (m : Int)))) = _
 rw [decide_eq_false (by omega)]; rfl
theorem byteVals_put (L : List UInt8) (k : Nat) (c : UInt8) : (byteVals L).set k (.int .u8 ((c.toNat : Nat) : Int)) = byteVals (L.set k c) := by
 simp [byteVals, List.map_set]
section
variable {X : Nat → Prop} {s0 s s' : St} {R F G H : List At} {p : Nat}
theorem fb10_spec (hp : Hp X s0 R F s) {L : List UInt8} (hL : L.length = 24) (h1 : Rm (blkA p p (byteVals L) 1) F G) {u : Nat} (hu1 : 1 ≤ u) (hu : u < 1000) {K : Value → St → Prop}
  (hK : ∀ r L' s', L'.length = 24 → Hp X s0 R (blkA p p (byteVals L') 1 :: G) s' → K r s') :
  Cw Tryz.prog 152 [.slice (some ⟨p, 1, none⟩) (dig3 u) 23, .int .u64 (u : Int)] s K := by
 replace hp : Hp X s0 R (blkA p p (byteVals L) 1 :: G) s := hp.pik (.cons h1 (.refl _))
 clear h1
 have hd3 : dig3 u ≤ 3 := by unfold dig3; split; omega; split <;> omega
 refine Cw.enterS Tryz.func152 rfl rfl ?_
 refine Sm.seqW ?_
 conv => whnf
 refine Sm.live [0, 1, 4] ?_
 conv => whnf
 refine Sm.seq ?_
 refine Sm.block ?_
 refine Sm.loop ?_
 refine Lp.ofS (α := Unit) (fun _ => [(0, .slice (some ⟨p, 1, none⟩) (dig3 u) 23), (1, .int .u64 (u : Int)), (4, .int .i64 ((dig3 u : Nat) : Int))])
  (fun _ s' => Hp X s0 R (blkA p p (byteVals L) 1 :: G) s') (fun _ => 0) ?_ () (subK_ok (by refine ⟨rfl, rfl, rfl, trivial⟩)) hp
 clear hp
 rintro ⟨⟩ s hp
 refine Sm.seq ?_
 refine Sm.seqW ?_
 conv => whnf
 refine Sm.live [0, 1, 4, 20] ?_
 conv => whnf
 refine Sm.ofW ?_
 conv => whnf
 refine Br.no (decide_eq_false (by omega)) ?_
 conv => whnf
 refine Sm.seqW ?_
 conv => whnf
 have e1 : IntKind.u32.wrap (u : Int) = (u : Int) := by show (u : Int) % 4294967296 = _; omega
 rw [e1]
 refine Sm.live [0, 4, 12] ?_
 conv => whnf
 refine Sm.seq ?_
 refine Sm.seqW ?_
 conv => whnf
 refine Sm.live [0, 4, 12, 99] ?_
 conv => whnf
 refine Sm.ofW ?_
 conv => whnf
 refine Br.no (decide_eq_false (by omega)) ?_
 conv => whnf
 refine Sm.seq ?_
 refine Sm.seqW ?_
 conv => whnf
 refine Sm.live [0, 4, 12, 139] ?_
 conv => whnf
 refine Sm.ofW ?_
 conv => whnf
 by_cases hu2 : u < 10
 · have hd : dig3 u = 1 := by unfold dig3; rw [if_pos hu2]
   rw [hd]
   refine Br.no (by rfl) ?_
   conv => whnf
   refine Sm.seqW ?_
   conv => whnf
   refine Sm.live [0, 12, 161] ?_
   conv => whnf
   refine Sm.ofW ?_
   conv => whnf
   repeat ((first | refine Br.y1 ?_ | refine Br.n1 ?_); conv => whnf)
   have e3 : IntKind.u8.wrap (IntKind.u32.wrap (48 + (u : Int))) = (((UInt8.ofNat (48 + u)).toNat : Nat) : Int) := by
    show (48 + (u : Int)) % 4294967296 % 256 = _
    have : (UInt8.ofNat (48 + u)).toNat = 48 + u := by simp; omega
    rw [this]; omega
   rw [e3]
   refine Om.of _ (idx_at (P := Tryz.prog) UB (b := p) (off := 1) (c := 23) (n := 1) (i := 0) .i64 (by decide)) ?_
   conv => whnf
   refine hp.store (v := .int .u8 (((UInt8.ofNat (48 + u)).toNat : Nat) : Int)) (off := 1 + 0 * 1) .d (by show 1 < (byteVals L).length; simp [byteVals, hL]) rfl rfl rfl rfl ?_
   clear hp
   intro s hp _
   rw [byteVals_put] at hp
   conv => whnf
   exact ⟨hK _ _ _ (by rw [List.length_set]; exact hL) hp⟩
 · have hd2 : 2 ≤ dig3 u := by unfold dig3; rw [if_neg hu2]; split <;> omega
   have hd : dig3 u = 2 ∨ dig3 u = 3 := by omega
   have hdu : dig3 u = 3 → u / 100 < 10 := fun _ => by omega
   generalize dig3 u = d at *
   refine Br.yes (decide_eq_true (by omega)) ?_
   conv => whnf
   refine Om.of _ (rem_u32 (n := u) (m := 100) (by decide)) ?_
   conv => whnf
   have e2 : IntKind.u32.wrap (((u % 100 : Nat) : Int) * 2) = ((u % 100 * 2 : Nat) : Int) := by show ((u % 100 : Nat) : Int) * 2 % 4294967296 = _; omega
   rw [e2]
   refine Om.of _ (quo_u32 (n := u) (m := 100) (by decide) (by omega)) ?_
   conv => whnf
   refine ⟨[0, 0, 2, 0, 0, 16, 0, 64, 192, 0, 512, 455, 2503, 8191, 16383], by decide +kernel, by decide +kernel, ?_⟩
   conv => whnf
   have e4 : IntKind.i64.wrap ((d : Int) - 1) = ((d - 1 : Nat) : Int) := by rw [wi64 (by omega) (by omega)]; omega
   have e5 : IntKind.i64.wrap ((d : Int) - 2) = ((d - 2 : Nat) : Int) := by rw [wi64 (by omega) (by omega)]; omega
   have e6 : IntKind.u32.wrap (((u % 100 * 2 : Nat) : Int) + 1) = ((u % 100 * 2 + 1 : Nat) : Int) := by show (((u % 100 * 2 : Nat) : Int) + 1) % 4294967296 = _; omega
   rw [e4, e5, e6]
   have hl := tab2_len
   refine Om.of _ (str_index Tryz.underlying9 (l := tab2) (i := u % 100 * 2 + 1) (by omega) .u32) ?_
   conv => whnf
   refine Om.of _ (str_index Tryz.underlying9 (l := tab2) (i := u % 100 * 2) (by omega) .u32) ?_
   conv => whnf
   refine Om.of _ (idx_at (P := Tryz.prog) UB (b := p) (off := 1) (c := 23) (n := d) (i := d - 1) .i64 (by omega)) ?_
   conv => whnf
   refine hp.rst.store (off := 1 + (d - 1) * 1) .d (by rw [show (byteVals L).length = 24 by simp [byteVals, hL]]; omega) rfl rfl rfl rfl ?_
   intro s1 h1 l1
   rw [byteVals_put] at h1
   conv => whnf
   refine hp.dkW h1 l1 ?_
   clear hp h1 l1
   intro s hp
   conv => whnf
   refine Om.of _ (idx_at (P := Tryz.prog) UB (b := p) (off := 1) (c := 23) (n := d) (i := d - 2) .i64 (by omega)) ?_
   conv => whnf
   have hL1 : (L.set (1 + (d - 1) * 1) tab2[u % 100 * 2 + 1]).length = 24 := by rw [List.length_set]; exact hL
   generalize L.set (1 + (d - 1) * 1) tab2[u % 100 * 2 + 1] = L1 at *
   refine hp.rst.store (off := 1 + (d - 2) * 1) .d (by rw [show (byteVals L1).length = 24 by simp [byteVals, hL1]]; omega) rfl rfl rfl rfl ?_
   intro s1 h1 l1
   rw [byteVals_put] at h1
   conv => whnf
   refine hp.dkW h1 l1 ?_
   clear hp h1 l1
   intro s hp
   conv => whnf
   have hL2 : (L1.set (1 + (d - 2) * 1) tab2[u % 100 * 2]).length = 24 := by rw [List.length_set]; exact hL1
   generalize L1.set (1 + (d - 2) * 1) tab2[u % 100 * 2] = L2 at *
   refine Sm.seqW ?_
   conv => whnf
   rw [e5]
   refine Sm.live [0, 12, 161] ?_
   conv => whnf
   refine Sm.ofW ?_
   conv => whnf
   rcases hd with rfl | rfl
   · refine Br.no (by rfl) ?_
     conv => whnf
     exact ⟨hK _ _ _ hL2 hp⟩
   · repeat ((first | refine Br.y1 ?_ | refine Br.n1 ?_); conv => whnf)
     have hx := hdu rfl
     generalize u / 100 = x at *
     have e3 : IntKind.u8.wrap (IntKind.u32.wrap (48 + (x : Int))) = (((UInt8.ofNat (48 + x)).toNat : Nat) : Int) := by
      show (48 + (x : Int)) % 4294967296 % 256 = _
      have : (UInt8.ofNat (48 + x)).toNat = 48 + x := by simp; omega
      rw [this]; omega
     rw [e3]
     refine Om.of _ (idx_at (P := Tryz.prog) UB (b := p) (off := 1) (c := 23) (n := 3) (i := 0) .i64 (by decide)) ?_
     conv => whnf
     refine hp.store (v := .int .u8 (((UInt8.ofNat (48 + x)).toNat : Nat) : Int)) (off := 1 + 0 * 1) .d (by show 1 < (byteVals L2).length; simp [byteVals, hL2]) rfl rfl rfl rfl ?_
     clear hp
     intro s hp _
     rw [byteVals_put] at hp
     conv => whnf
     exact ⟨hK _ _ _ (by rw [List.length_set]; exact hL2) hp⟩
end
end
end Go.Ev
