/- Several texts in one: what the law's text leans on, one behind the other. No condition but those that each theorem names. -/
import Derived.Test.YtlmjeodogaaooaaDoorGLabel2
/- Numbers of texts: Atoi. No condition. -/
noncomputable section
namespace Go.Ev
open Go.Proofs
variable [Lk]
set_option linter.unusedSectionVars false
set_option linter.unusedVariables false
set_option maxRecDepth 100000

/-- What Atoi answers. -/
structure AtoiA (l : List UInt8) (r : Value) : Prop where
  ex : ∃ (n : Int) (e : Value), r = .tuple #[.int .i64 n, e] ∧ (-9223372036854775808 ≤ n ∧ n < 9223372036854775808) ∧ (e = .nilIface ∨ e = erV 1 ∨ e = erV 2) ∧ ∀ k, k < 10 → l = [dgt k] → n = (k : Int) ∧ e = .nilIface
theorem dgt_sub : ∀ k, k < 10 → IntKind.u8.wrap (((dgt k).toNat : Int) - 48) = (k : Int) := by decide +kernel
theorem dgt_sign : ∀ k, k < 10 → (dgt k).toNat ≠ 45 ∧ (dgt k).toNat ≠ 43 := by decide +kernel
theorem iatoi_spec {z : St} (wf : WF z) (l : List UInt8) (hl : l.length ≤ 281474976710656) :
    Cw Tryd.prog 55 [sv l] z fun r s' => K0 z s' ∧ AtoiA l r := by
  have hp : Hp (fun _ => False) z [] [] z := Hp.start _ wf _ (by simp)
  refine Cw.enterS Tryd.func55 rfl rfl ?_
  refine Sm.seqW ?_
  conv => whnf
  refine Sm.live [0, 2, 3] ?_
  conv => whnf
  refine Sm.seqW ?_
  conv => whnf
  refine Sm.live [0, 4] ?_
  conv => whnf
  refine Sm.seq ?_
  refine Sm.seqC (fun e L' s' => e = .normal ∧ s' = z ∧ ∃ B, (B = true → 0 < l.length) ∧ (l.length = 1 → B = true) ∧ Sub [(0, sv l), (4, .int .i64 ((l.length : Nat) : Int)), (30, .bool B)] L') ?_ ?_
  · conv => whnf
    by_cases h1 : 0 < l.length
    · have q1 : decide ((0 : Int) < (((bs ⟨l.toArray⟩).length : Nat) : Int)) = true := decide_eq_true (by show (0 : Int) < ((l.length : Nat) : Int); omega)
      by_cases h2 : l.length < 19
      · have q2 : decide ((((bs ⟨l.toArray⟩).length : Nat) : Int) < 19) = true := decide_eq_true (by show ((l.length : Nat) : Int) < 19; omega)
        repeat (first | (refine Br.yes q1 ?_; conv => whnf) | (refine Br.yes q2 ?_; conv => whnf) | (first | (refine Br.yes (by first | with_reducible rfl | with_reducible exact beq_self_eq_true _ | rfl) ?_; conv => whnf) | (refine Br.no (by first | with_reducible rfl | with_reducible exact bne_self_eq_false _ | rfl) ?_; conv => whnf)))
        exact ⟨rfl, rfl, true, fun _ => h1, fun _ => rfl, subK_ok ⟨rfl, rfl, by first | rfl | exact congrArg (fun x => some (Value.bool x)) q2, trivial⟩⟩
      · have q2 : decide ((((bs ⟨l.toArray⟩).length : Nat) : Int) < 19) = false := decide_eq_false (by show ¬ ((l.length : Nat) : Int) < 19; omega)
        repeat (first | (refine Br.yes q1 ?_; conv => whnf) | (refine Br.no q2 ?_; conv => whnf) | (first | (refine Br.yes (by first | with_reducible rfl | with_reducible exact beq_self_eq_true _ | rfl) ?_; conv => whnf) | (refine Br.no (by first | with_reducible rfl | with_reducible exact bne_self_eq_false _ | rfl) ?_; conv => whnf)))
        exact ⟨rfl, rfl, false, fun h => (by cases h), fun h => (by omega), subK_ok ⟨rfl, rfl, by first | rfl | exact congrArg (fun x => some (Value.bool x)) q2, trivial⟩⟩
    · have q1 : decide ((0 : Int) < (((bs ⟨l.toArray⟩).length : Nat) : Int)) = false := decide_eq_false (by show ¬ (0 : Int) < ((l.length : Nat) : Int); omega)
      repeat (first | (refine Br.no q1 ?_; conv => whnf) | (first | (refine Br.yes (by first | with_reducible rfl | with_reducible exact beq_self_eq_true _ | rfl) ?_; conv => whnf) | (refine Br.no (by first | with_reducible rfl | with_reducible exact bne_self_eq_false _ | rfl) ?_; conv => whnf)))
      exact ⟨rfl, rfl, false, fun h => (by cases h), fun h => (by omega), subK_ok ⟨rfl, rfl, by first | rfl | exact congrArg (fun x => some (Value.bool x)) q1, trivial⟩⟩
  rintro e L' s' ⟨rfl, rfl, B, hB1, hB2, hs⟩
  refine Sm.weak _ hs ?_
  clear hs
  cases B with
  | false =>
    refine Sm.cond (v := false) rfl (fun h => (by cases h)) (fun _ => ?_)
    refine Sm.ofW ?_
    conv => whnf
    refine Sm.seqW ?_
    conv => whnf
    refine hp.call (parseInt_spec hp.wf l hl) ?_
    clear hp
    rintro _ s ⟨n, e, rfl, h1, h2, he⟩ hp _
    conv => whnf
    refine Sm.live [9, 10] ?_
    conv => whnf
    refine Sm.seqW ?_
    conv => whnf
    refine Sm.ofW ?_
    conv => whnf
    exact ⟨hp.fr, ⟨n, e, rfl, ⟨h1, h2⟩, he, fun k hk hlk => absurd (hB2 (by rw [hlk]; rfl)) (by decide)⟩⟩
  | true =>
    have h1 := hB1 rfl
    clear hB1 hB2
    have hsg : ∀ k, k < 10 → l = [dgt k] → l[0] = dgt k := fun k hk h => by subst h; rfl
    refine Sm.cond (v := true) rfl (fun _ => ?_) (fun h => (by cases h))
    refine Sm.seqW ?_
    conv => whnf
    refine Sm.live [0, 4, 5] ?_
    conv => whnf
    refine Sm.seq ?_
    refine Sm.mono (Q := fun e L' s2 => (e = .normal ∧ s2 = s' ∧ ∃ l' : List UInt8, (∀ k, k < 10 → l = [dgt k] → l' = l) ∧ l'.length ≤ l.length ∧ Sub [(0, sv l'), (5, sv l)] L') ∨ (e = .ret ∧ retK Tryd.prog Tryd.f55.results.toList (fun r s2 => K0 s' s2 ∧ AtoiA l r) .ret L' s2)) ?_ ?_
    · refine Sm.seqW ?_
      conv => whnf
      refine Om.of _ (str_index Tryd.underlying9 (l := l) (i := 0) h1 .i64) ?_
      conv => whnf
      have b1 : ∀ {p : Prop}, ((l[0].toNat : Int) == 45) = true → (∀ k, k < 10 → l = [dgt k] → p) := fun {p} h k hk hlk => absurd (beq_iff_eq.1 h) (by rw [hsg k hk hlk]; have := (dgt_sign k hk).1; omega)
      have b2 : ∀ {p : Prop}, ((l[0].toNat : Int) == 43) = true → (∀ k, k < 10 → l = [dgt k] → p) := fun {p} h k hk hlk => absurd (beq_iff_eq.1 h) (by rw [hsg k hk hlk]; have := (dgt_sign k hk).2; omega)
      repeat' (first | (refine Br.yes (by first | with_reducible rfl | with_reducible assumption) ?_; conv => whnf) | (refine Br.no (by first | with_reducible rfl | with_reducible assumption) ?_; conv => whnf) | (refine Om.of _ (str_index Tryd.underlying9 (l := l) (i := 0) h1 .i64) ?_; conv => whnf) | (refine Br.mk (fun hq => ?_) (fun hq => ?_) <;> conv => whnf))
      all_goals
        refine Sm.ofW ?_
        conv => whnf
        repeat' (first | (refine Br.yes (by first | with_reducible rfl | with_reducible assumption) ?_; conv => whnf) | (refine Br.no (by first | with_reducible rfl | with_reducible assumption) ?_; conv => whnf) | (refine Om.of _ (str_drop Tryd.underlying9 (l := l) .i64 (j := 1) h1) ?_; conv => whnf) | (refine Br.mk (fun hq => ?_) (fun hq => ?_) <;> conv => whnf))
      all_goals first
        | exact .inl ⟨rfl, rfl, l, fun _ _ _ => rfl, Nat.le_refl _, subK_ok ⟨rfl, rfl, trivial⟩⟩
        | exact .inl ⟨rfl, rfl, l.drop 1, fun k hk hlk => b1 (by assumption) k hk hlk, by (rw [List.length_drop]; omega), subK_ok ⟨rfl, rfl, trivial⟩⟩
        | exact .inl ⟨rfl, rfl, l.drop 1, fun k hk hlk => b2 (by assumption) k hk hlk, by (rw [List.length_drop]; omega), subK_ok ⟨rfl, rfl, trivial⟩⟩
        | (refine .inr ⟨rfl, ?_⟩; (conv => whnf); exact ⟨hp.fr, ⟨0, erV 2, rfl, ⟨by decide, by decide⟩, .inr (.inr rfl), fun k hk hlk => b1 (by assumption) k hk hlk⟩⟩)
        | (refine .inr ⟨rfl, ?_⟩; (conv => whnf); exact ⟨hp.fr, ⟨0, erV 2, rfl, ⟨by decide, by decide⟩, .inr (.inr rfl), fun k hk hlk => b2 (by assumption) k hk hlk⟩⟩)
    rintro e L' s2 (⟨rfl, rfl, l', hl1, hl2, hs⟩ | ⟨rfl, hh⟩)
    · refine Sm.weak _ hs ?_
      clear hs
      refine Sm.seqW ?_
      conv => whnf
      refine Sm.live [0, 5, 6] ?_
      conv => whnf
      refine Sm.seq ?_
      refine Sm.seqW ?_
      conv => whnf
      refine hp.bytesOf Tryd.underlying9 Tryd.underlying28 Tryd.underlying5 ⟨l'.toArray⟩ ?_
      clear hp
      intro b s hp _
      conv => whnf
      refine Sm.live [5, 6, 47, 48, 49] ?_
      conv => whnf
      refine Sm.block ?_
      refine Sm.loop ?_
      refine Lp.ofS (α := Nat × Int) (fun x => [(5, sv l), (6, .int .i64 x.2), (47, .slice (some ⟨b, 0, none⟩) l'.length l'.length), (48, .int .i64 ((l'.length : Nat) : Int)), (49, .int .i64 (x.1 : Int))])
        (fun x s' => x.1 ≤ l'.length ∧ (-9223372036854775808 ≤ x.2 ∧ x.2 < 9223372036854775808) ∧ (∀ k, k < 10 → l = [dgt k] → (x.1 = 0 → x.2 = 0) ∧ (x.1 = 1 → x.2 = (k : Int))) ∧ Hp (fun _ => False) s2 [] [blkA b b (byteVals l') 1] s') (fun x => l'.length - x.1) ?_ (0, 0) (subK_ok (by refine ⟨rfl, rfl, rfl, rfl, rfl, trivial⟩)) ⟨Nat.zero_le _, ⟨by decide, by decide⟩, fun k hk h => ⟨fun _ => rfl, fun h => by cases h⟩, hp⟩
      clear hp
      rintro ⟨i, n⟩ s ⟨hi, hn, hx, hp⟩
      have hi : i ≤ l'.length := hi
      have hn : -9223372036854775808 ≤ n ∧ n < 9223372036854775808 := hn
      have hx : ∀ k, k < 10 → l = [dgt k] → (i = 0 → n = 0) ∧ (i = 1 → n = (k : Int)) := hx
      refine Sm.seqW ?_
      conv => whnf
      refine Sm.live [5, 6, 47, 48, 49, 50] ?_
      conv => whnf
      refine Sm.seq ?_
      refine Sm.ofW ?_
      conv => whnf
      refine Br.mk (fun hq => ?_) (fun hq => ?_)
      · have hq : i < l'.length := by have : (i : Int) < (l'.length : Int) := of_decide_eq_true hq; omega
        obtain ⟨p, y, e1, e2, e3, _, rfl⟩ := index_sl UB Tryd.underlying5 rfl (hp.blkSl (n := l'.length) (by repeat (first | exact Has.here | apply Has.there | (apply Has.swap; repeat (first | exact HasR.here | apply HasR.there)))) (by rw [byteVals_length]; omega)) .i64 hq
        have e4 : y = .int .u8 ((l'[i].toNat : Nat) : Int) := by
          unfold byteVals at e2
          rw [List.getElem?_map, List.getElem?_eq_getElem hq] at e2
          injection e2 with e2; exact e2.symm
        subst e4
        have hc1 : ∀ k, k < 10 → l = [dgt k] → i = 0 ∧ l'[i] = dgt k := fun k hk h => by
          have h9 := hl1 k hk h
          subst h9
          subst h
          have : i = 0 := by simpa using hq
          subst this
          exact ⟨rfl, rfl⟩
        generalize hc : l'[i] = c at *
        conv => whnf
        refine Sm.seq ?_
        refine Sm.block ?_
        refine Sm.seqW ?_
        conv => whnf
        refine Om.of _ (e1) ?_
        conv => whnf
        refine Om.of _ (e3) ?_
        conv => whnf
        refine Sm.live [5, 6, 8, 47, 48, 49] ?_
        conv => whnf
        refine Sm.ofW ?_
        conv => whnf
        refine Br.mk (fun h9 => ?_) (fun h9 => ?_)
        · conv => whnf
          exact ⟨hp.fr, ⟨0, erV 2, rfl, ⟨by decide, by decide⟩, .inr (.inr rfl), fun k hk h => absurd (of_decide_eq_true h9) (by rw [(hc1 k hk h).2, dgt_sub k hk]; omega)⟩⟩
        · conv => whnf
          refine Sm.ofW ?_
          conv => whnf
          exact ⟨(i + 1, _), by (show l'.length - (i + 1) < l'.length - i); omega, subK_ok (by refine ⟨rfl, rfl, rfl, rfl, congrArg (fun x => some (Value.int .i64 x)) (show IntKind.i64.wrap ((i : Int) + 1) = ((i + 1 : Nat) : Int) by rw [wi64 (by omega) (by omega)]; omega), trivial⟩), by (show i + 1 ≤ l'.length); omega, i64_rng _, fun k hk h => ⟨fun h8 => (by cases h8), fun h8 => by
            obtain ⟨g1, g2⟩ := hc1 k hk h
            show IntKind.i64.wrap (IntKind.i64.wrap (n * 10) + IntKind.i64.wrap (IntKind.u8.wrap ((c.toNat : Int) - 48))) = (k : Int)
            rw [(hx k hk h).1 g1, g2, dgt_sub k hk, wi64 (n := (0 : Int) * 10) (by decide) (by decide), wi64 (n := (k : Int)) (by omega) (by omega), wi64 (by omega) (by omega)]; omega⟩, hp⟩
      · have hq : i = l'.length := by have := of_decide_eq_false hq; omega
        have fin : ∀ k, k < 10 → l = [dgt k] → n = (k : Int) := fun k hk h => (hx k hk h).2 (by rw [hq, hl1 k hk h, h]; rfl)
        conv => whnf
        refine Sm.seq ?_
        refine Sm.seqW ?_
        conv => whnf
        refine Om.of _ (str_index Tryd.underlying9 (l := l) (i := 0) h1 .i64) ?_
        conv => whnf
        refine Sm.live [5, 6, 66] ?_
        conv => whnf
        refine Sm.ofW ?_
        conv => whnf
        refine Br.mk (fun h9 => ?_) (fun h9 => ?_)
        · conv => whnf
          refine Sm.live [6] ?_
          conv => whnf
          refine Sm.seqW ?_
          conv => whnf
          refine Sm.ofW ?_
          conv => whnf
          exact ⟨hp.fr, ⟨_, .nilIface, rfl, i64_rng _, .inl rfl, fun k hk h => absurd (beq_iff_eq.1 h9) (by rw [hsg k hk h]; have := (dgt_sign k hk).1; omega)⟩⟩
        · conv => whnf
          refine Sm.live [6] ?_
          conv => whnf
          refine Sm.seqW ?_
          conv => whnf
          refine Sm.ofW ?_
          conv => whnf
          exact ⟨hp.fr, ⟨n, .nilIface, rfl, hn, .inl rfl, fun k hk h => ⟨fin k hk h, rfl⟩⟩⟩
    · exact hh
/-- Atoi. -/
theorem atoi_spec {z : St} (wf : WF z) (hg : Gs z) (l : List UInt8) (hl : l.length ≤ 281474976710656) :
    Cw Tryd.prog 40 [sv l] z fun r s' => K0 z s' ∧ ∃ (n : Int) (e : Value), r = .tuple #[.int .i64 n, e] ∧ (-9223372036854775808 ≤ n ∧ n < 9223372036854775808) ∧ ∀ k, k < 10 → l = [dgt k] → n = (k : Int) := by
  have hp : Hp (fun _ => False) z [] [] z := Hp.start _ wf _ (by simp)
  refine Cw.enterS Tryd.func40 rfl rfl ?_
  refine Sm.seqW ?_
  conv => whnf
  refine Sm.live [0, 2, 3] ?_
  conv => whnf
  refine Sm.seqW ?_
  conv => whnf
  refine hp.call (iatoi_spec hp.wf l hl) ?_
  clear hp
  rintro _ s ⟨n, e, rfl, h1, he, hk⟩ hp _
  conv => whnf
  refine Sm.live [0, 4, 5] ?_
  conv => whnf
  refine Sm.seq ?_
  refine Sm.seqW ?_
  conv => whnf
  have fin : ∀ k, k < 10 → l = [dgt k] → n = (k : Int) := fun k h1 h2 => (hk k h1 h2).1
  rcases he with rfl | rfl | rfl
  · refine Om.of (.bool false) (by kernel_rfl) ?_
    conv => whnf
    refine Sm.ofW ?_
    conv => whnf
    repeat (first | (refine Br.yes (by first | with_reducible rfl | with_reducible exact beq_self_eq_true _ | rfl) ?_; conv => whnf) | (refine Br.no (by first | with_reducible rfl | with_reducible exact bne_self_eq_false _ | rfl) ?_; conv => whnf))
    refine Sm.seqW ?_
    conv => whnf
    refine Sm.ofW ?_
    conv => whnf
    exact ⟨hp.fr, ⟨n, _, rfl, h1, fin⟩⟩
  · refine Om.of (.bool true) (by kernel_rfl) ?_
    conv => whnf
    refine Sm.ofW ?_
    conv => whnf
    repeat (first | (refine Br.yes (by first | with_reducible rfl | with_reducible exact beq_self_eq_true _ | rfl) ?_; conv => whnf) | (refine Br.no (by first | with_reducible rfl | with_reducible exact bne_self_eq_false _ | rfl) ?_; conv => whnf))
    refine hp.call (toError_spec hp.wf (hg.keep hp.fr) [65, 116, 111, 105] l hl 1 (.inl rfl)) ?_
    clear hp
    intro v s _ hp _
    conv => whnf
    exact ⟨hp.fr, ⟨n, _, rfl, h1, fin⟩⟩
  · refine Om.of (.bool true) (by kernel_rfl) ?_
    conv => whnf
    refine Sm.ofW ?_
    conv => whnf
    repeat (first | (refine Br.yes (by first | with_reducible rfl | with_reducible exact beq_self_eq_true _ | rfl) ?_; conv => whnf) | (refine Br.no (by first | with_reducible rfl | with_reducible exact bne_self_eq_false _ | rfl) ?_; conv => whnf))
    refine hp.call (toError_spec hp.wf (hg.keep hp.fr) [65, 116, 111, 105] l hl 2 (.inr rfl)) ?_
    clear hp
    intro v s _ hp _
    conv => whnf
    exact ⟨hp.fr, ⟨n, _, rfl, h1, fin⟩⟩
end Go.Ev
end

/- Read of a label. No condition. -/
noncomputable section
namespace Go.Ev
open Go.Proofs
variable [Lk]
set_option linter.unusedSectionVars false
set_option linter.unusedVariables false
set_option maxRecDepth 100000

def orF (l : List UInt8) : Nat := l.foldl (fun n c => n ||| 2 ^ (c.toNat % 8)) 0
theorem orF_app (l : List UInt8) (c : UInt8) : orF (l ++ [c]) = orF l ||| 2 ^ (c.toNat % 8) := by
  unfold orF
  rw [List.foldl_append]; rfl
theorem orF_succ (l : List UInt8) {i : Nat} (h : i < l.length) : orF (l.take (i + 1)) = orF (l.take i) ||| 2 ^ (l[i].toNat % 8) := by
  rw [List.take_add_one, List.getElem?_eq_getElem h, Option.toList_some, orF_app]
theorem pow8_lt (n : Nat) : 2 ^ (n % 8) < 256 := Nat.pow_lt_pow_right (by decide) (Nat.mod_lt n (by decide))
theorem orF_lt' : ∀ (l : List UInt8) (n : Nat), n < 256 → l.foldl (fun n (c : UInt8) => n ||| 2 ^ (c.toNat % 8)) n < 256
  | [], n, h => h
  | c :: l, n, h => orF_lt' l _ (Nat.or_lt_two_pow (n := 8) h (pow8_lt _))
theorem orF_lt (l : List UInt8) : orF l < 256 := orF_lt' l 0 (by decide)
theorem and7' : ∀ n : Nat, n < 256 → IntKind.i64.wrap (IntKind.u8.wrap ((BitVec.ofInt IntKind.u8.bits (n : Int) &&& BitVec.ofInt IntKind.u8.bits 7).toNat : Int)) = ((n % 8 : Nat) : Int) := by decide +kernel
/-- A text is cut at its first colon. -/
def cutA (l : List UInt8) : List UInt8 := match idxL 58 l 0 with
  | some i => l.take i
  | none => l
def cutB (l : List UInt8) : List UInt8 := match idxL 58 l 0 with
  | some i => l.drop (i + 1)
  | none => []
theorem cutF_ab (l : List UInt8) : ∃ b, cutF l 58 = .tuple #[sv (cutA l), sv (cutB l), .bool b] := by
  unfold cutF cutA cutB
  show ∃ b, (match idxL 58 l 0 with
    | some i => Value.tuple #[sv (l.take i), sv (l.drop (i + 1)), .bool true]
    | none => .tuple #[sv l, sv [], .bool false]) = _
  cases idxL 58 l 0 with
  | some i => exact ⟨true, rfl⟩
  | none => exact ⟨false, rfl⟩
theorem cut_len (l : List UInt8) : (cutA l).length ≤ l.length ∧ (cutB l).length ≤ l.length := by
  unfold cutA cutB
  cases idxL 58 l 0 with
  | some i => simp; omega
  | none => simp
/-- What Read answers, given what Atoi said. -/
def readA (s : List UInt8) (a : Lb) : Value := if s = [] ∨ lprintF a ≠ s then .tuple #[(Lb.mk 0 0).val, .int .i64 2] else .tuple #[a.val, .int .i64 0]
theorem lread_walk {z : St} (wf : WF z) (hg : Gs z) (l : List UInt8) (hl : l.length ≤ 281474976710656) :
    Cw Tryd.prog 22 [sv l] z fun r s' => K0 z s' ∧ ∃ n : Int, (∀ k, k < 10 → cutA l = [dgt k] → n = (k : Int)) ∧ r = readA l ⟨orF (cutB l), n⟩ := by
  have hp : Hp (fun _ => False) z [] [] z := Hp.start _ wf _ (by simp)
  refine Cw.enterS Tryd.func22 rfl rfl ?_
  refine Sm.seqW ?_
  conv => whnf
  refine hp.alloc (cs := (Lb.mk 0 0).cells) (e := 2) rfl rfl rfl rfl rfl ?_
  clear hp
  intro p2 s hp _
  conv => whnf
  refine Sm.live [0, 2] ?_
  conv => whnf
  refine Sm.seqW ?_
  conv => whnf
  refine (cut_spec _ l (by omega) 58).mono ?_
  rintro _ s1 ⟨h1, rfl⟩
  obtain rfl := h1.symm
  conv => whnf
  obtain ⟨found, hcut⟩ := cutF_ab l
  obtain ⟨hlA, hlB⟩ := cut_len l
  rw [hcut]
  generalize cutA l = A at *
  generalize cutB l = B at *
  conv => whnf
  refine Sm.live [0, 2, 4, 5] ?_
  conv => whnf
  refine Sm.seqW ?_
  conv => whnf
  refine hp.alloc (cs := (Lb.mk 0 0).cells) (e := 2) rfl rfl rfl rfl rfl ?_
  clear hp
  intro p7 s hp _
  conv => whnf
  refine Sm.live [0, 2, 4, 5, 7] ?_
  conv => whnf
  refine Sm.seq ?_
  refine Sm.seqW ?_
  conv => whnf
  refine hp.bytesOf Tryd.underlying9 Tryd.underlying28 Tryd.underlying5 ⟨B.toArray⟩ ?_
  clear hp
  intro b s hp _
  conv => whnf
  refine Sm.live [0, 2, 4, 7, 17, 18, 19] ?_
  conv => whnf
  refine Sm.block ?_
  refine Sm.loop ?_
  refine Lp.ofS (α := Nat) (fun i => [(0, sv l), (2, .pointer (some ⟨p2, 0, none⟩)), (4, sv A), (7, .pointer (some ⟨p7, 0, none⟩)), (17, .slice (some ⟨b, 0, none⟩) B.length B.length), (18, .int .i64 ((B.length : Nat) : Int)), (19, .int .i64 (i : Int))])
    (fun i s' => i ≤ B.length ∧ Hp (fun _ => False) z [] [blkA p7 p7 (Lb.mk (orF (B.take i)) 0).cells 2, blkA p2 p2 (Lb.mk 0 0).cells 2, blkA b b (byteVals B) 1] s') (fun i => B.length - i) ?_ 0 (subK_ok (by refine ⟨rfl, rfl, rfl, rfl, rfl, rfl, rfl, trivial⟩)) ⟨Nat.zero_le _, hp.pik (by repeat (first | exact Pik.nil | exact Pik.refl _ | exact Rm.here | apply Rm.there | apply Pik.cons | apply Pik.skip))⟩
  clear hp
  rintro i s ⟨hi, hp⟩
  refine Sm.seqW ?_
  conv => whnf
  refine Sm.live [0, 2, 4, 7, 17, 18, 19, 20] ?_
  conv => whnf
  refine Sm.seq ?_
  refine Sm.ofW ?_
  conv => whnf
  refine Br.mk (fun hq => ?_) (fun hq => ?_)
  · have hq : i < B.length := by have : (i : Int) < (B.length : Int) := of_decide_eq_true hq; omega
    obtain ⟨p, y, e1, e2, e3, _, rfl⟩ := index_sl UB Tryd.underlying5 rfl (hp.blkSl (k := b) (b := b) (n := B.length) (C := byteVals B) (by repeat (first | exact Has.here | apply Has.there | (apply Has.swap; repeat (first | exact HasR.here | apply HasR.there)))) (by rw [byteVals_length]; omega)) .i64 hq
    have e4 : y = .int .u8 ((B[i].toNat : Nat) : Int) := by
      unfold byteVals at e2
      rw [List.getElem?_map, List.getElem?_eq_getElem hq] at e2
      injection e2 with e2; exact e2.symm
    subst e4
    have e5 := orF_succ B hq
    have e6 := orF_lt (B.take i)
    generalize B[i] = c at *
    conv => whnf
    refine Sm.seq ?_
    refine Sm.block ?_
    refine Sm.seqW ?_
    conv => whnf
    refine Om.of _ (e1) ?_
    conv => whnf
    refine Om.of _ (e3) ?_
    conv => whnf
    refine Sm.live [0, 2, 4, 7, 9, 17, 18, 19] ?_
    conv => whnf
    refine Sm.ofW ?_
    conv => whnf
    refine ⟨[0, 1, 0, 4, 12, 28, 63, 127, 255], by decide +kernel, by decide +kernel, ?_⟩
    conv => whnf
    (refine hp.load (by repeat (first | exact Has.here | apply Has.there | (apply Has.swap; repeat (first | exact HasR.here | apply HasR.there)))) (by rfl) rfl rfl rfl ?_; conv => whnf)
    rw [and7' c.toNat c.toNat_lt]
    refine (bit_spec _ (k := c.toNat % 8) (by have := Nat.mod_lt c.toNat (show 0 < 8 by decide); omega)).mono ?_
    rintro _ s1 ⟨h1, rfl⟩
    obtain rfl := h1.symm
    conv => whnf
    refine hp.dkS ?_
    conv => whnf
    rw [or_u64 (a := orF (B.take i)) (by omega) (by have := pow8_lt c.toNat; omega)]
    (refine hp.rst.store (by repeat (first | exact Rm.here | apply Rm.there)) (by first | exact of_decide_eq_true rfl | (simp; done) | (simp; omega) | omega) rfl rfl rfl rfl ?_; intro s1 h1 l1; (conv => whnf); refine hp.dkW h1 l1 ?_; clear h1 l1; intro s hp; conv => whnf)
    have e7 : (Lb.mk (orF (B.take i)) 0).cells.set 0 (.int .u64 ((orF (B.take i) ||| 2 ^ (c.toNat % 8) : Nat) : Int)) = (Lb.mk (orF (B.take (i + 1))) 0).cells := by rw [e5]; rfl
    replace hp : Hp (fun _ => False) z [] [blkA p7 p7 ((Lb.mk (orF (B.take i)) 0).cells.set 0 (.int .u64 ((orF (B.take i) ||| 2 ^ (c.toNat % 8) : Nat) : Int))) 2, blkA p2 p2 (Lb.mk 0 0).cells 2, blkA b b (byteVals B) 1] s := hp.pik (by repeat (first | exact Pik.nil | exact Pik.refl _ | exact Rm.here | apply Rm.there | apply Pik.cons | apply Pik.skip))
    rw [e7] at hp
    refine Sm.ofW ?_
    conv => whnf
    exact ⟨i + 1, by (show B.length - (i + 1) < B.length - i); omega, subK_ok (by refine ⟨rfl, rfl, rfl, rfl, rfl, rfl, congrArg (fun x => some (Value.int .i64 x)) (show IntKind.i64.wrap ((i : Int) + 1) = ((i + 1 : Nat) : Int) by rw [wi64 (by omega) (by omega)]; omega), trivial⟩), by (show i + 1 ≤ B.length); omega, hp.pik (by repeat (first | exact Pik.nil | exact Pik.refl _ | exact Rm.here | apply Rm.there | apply Pik.cons | apply Pik.skip))⟩
  · have hq : i = B.length := by have := of_decide_eq_false hq; omega
    subst hq
    rw [List.take_length] at hp
    conv => whnf
    refine Sm.seqW ?_
    conv => whnf
    refine hp.call (atoi_spec hp.wf (hg.keep hp.fr) A (by omega)) ?_
    clear hp
    rintro _ s ⟨n, e, rfl, hn, hk⟩ hp _
    conv => whnf
    (refine hp.store (by repeat (first | exact Rm.here | apply Rm.there)) (by first | exact of_decide_eq_true rfl | (simp; done) | (simp; omega) | omega) rfl rfl rfl rfl ?_; intro s hp _; conv => whnf)
    replace hp : Hp (fun _ => False) z [] [blkA p7 p7 (Lb.mk (orF B) n).cells 2, blkA p2 p2 (Lb.mk 0 0).cells 2, blkA b b (byteVals B) 1] s := hp
    have hok : (Lb.mk (orF B) n).ok := ⟨by have := orF_lt B; show orF B < _; omega, hn⟩
    refine Sm.live [0, 2, 7] ?_
    conv => whnf
    refine Sm.seq ?_
    refine Sm.seqW ?_
    conv => whnf
    refine Om.of _ (str_eq ⟨l.toArray⟩ _) ?_
    conv => whnf
    have e0 : (bs ⟨l.toArray⟩ == bs { data := #[] }) = decide (l = []) := by
      show (l == ([] : List UInt8)) = _
      rw [Bool.eq_iff_iff, beq_iff_eq, decide_eq_true_iff]
    rw [e0]
    by_cases h0 : l = []
    · have q0 : decide (l = []) = true := decide_eq_true h0
      repeat (first | (refine Br.yes q0 ?_; conv => whnf) | (first | (refine Br.yes (by first | with_reducible rfl | with_reducible exact beq_self_eq_true _ | rfl) ?_; conv => whnf) | (refine Br.no (by first | with_reducible rfl | with_reducible exact bne_self_eq_false _ | rfl) ?_; conv => whnf)))
      refine Sm.ofW ?_
      conv => whnf
      repeat (first | (refine Br.yes (by first | with_reducible rfl | with_reducible exact beq_self_eq_true _ | rfl) ?_; conv => whnf) | (refine Br.no (by first | with_reducible rfl | with_reducible exact bne_self_eq_false _ | rfl) ?_; conv => whnf))
      refine hp.storeW (vs := (Lb.mk 0 0).cells) rfl (by repeat (first | exact Rm.here | apply Rm.there)) (by first | exact C2_same _ _ _ _ | exact C4_same _ _ _ _ _ _ _ _ | exact Dc_same _ _ | rfl) rfl rfl rfl ?_
      clear hp
      intro s hp _
      conv => whnf
      refine hp.loadA (l := (Lb.mk 0 0).cells) (by repeat (first | exact Has.here | apply Has.there | (apply Has.swap; repeat (first | exact HasR.here | apply HasR.there)))) rfl (by rfl) rfl rfl ?_
      conv => whnf
      exact ⟨hp.fr, n, hk, (if_pos (.inl h0)).symm⟩
    have q0 : decide (l = []) = false := decide_eq_false h0
    refine Br.no q0 ?_
    conv => whnf
    refine hp.loadA (l := (Lb.mk (orF B) n).cells) (by repeat (first | exact Has.here | apply Has.there | (apply Has.swap; repeat (first | exact HasR.here | apply HasR.there)))) rfl (by rfl) rfl rfl ?_
    conv => whnf
    repeat (first | (refine Br.no q0 ?_; conv => whnf) | (first | (refine Br.yes (by first | with_reducible rfl | with_reducible exact beq_self_eq_true _ | rfl) ?_; conv => whnf) | (refine Br.no (by first | with_reducible rfl | with_reducible exact bne_self_eq_false _ | rfl) ?_; conv => whnf)))
    refine hp.call (lprint_spec hp.wf hok) ?_
    clear hp
    rintro _ s rfl hp _
    conv => whnf
    repeat (first | (refine Br.no q0 ?_; conv => whnf) | (first | (refine Br.yes (by first | with_reducible rfl | with_reducible exact beq_self_eq_true _ | rfl) ?_; conv => whnf) | (refine Br.no (by first | with_reducible rfl | with_reducible exact bne_self_eq_false _ | rfl) ?_; conv => whnf)))
    refine Om.of _ (str_ne ⟨(lprintF (Lb.mk (orF B) n)).toArray⟩ ⟨l.toArray⟩) ?_
    conv => whnf
    have e8 : (!(bs ⟨(lprintF (Lb.mk (orF B) n)).toArray⟩ == bs ⟨l.toArray⟩)) = decide (lprintF (Lb.mk (orF B) n) ≠ l) := by
      show (!(lprintF (Lb.mk (orF B) n) == l)) = _
      rw [Bool.eq_iff_iff, decide_eq_true_iff, Bool.not_eq_true', beq_eq_false_iff_ne]
    rw [e8]
    by_cases h1 : lprintF (Lb.mk (orF B) n) = l
    · have q1 : decide (lprintF (Lb.mk (orF B) n) ≠ l) = false := decide_eq_false (fun h => h h1)
      repeat (first | (refine Br.no q0 ?_; conv => whnf) | (refine Br.no q1 ?_; conv => whnf) | (first | (refine Br.yes (by first | with_reducible rfl | with_reducible exact beq_self_eq_true _ | rfl) ?_; conv => whnf) | (refine Br.no (by first | with_reducible rfl | with_reducible exact bne_self_eq_false _ | rfl) ?_; conv => whnf)))
      refine Sm.ofW ?_
      conv => whnf
      repeat (first | (refine Br.no q0 ?_; conv => whnf) | (refine Br.no q1 ?_; conv => whnf) | (first | (refine Br.yes (by first | with_reducible rfl | with_reducible exact beq_self_eq_true _ | rfl) ?_; conv => whnf) | (refine Br.no (by first | with_reducible rfl | with_reducible exact bne_self_eq_false _ | rfl) ?_; conv => whnf)))
      conv => whnf
      refine Sm.live [2, 7] ?_
      conv => whnf
      refine Sm.seqW ?_
      conv => whnf
      refine hp.loadA (l := (Lb.mk (orF B) n).cells) (by repeat (first | exact Has.here | apply Has.there | (apply Has.swap; repeat (first | exact HasR.here | apply HasR.there)))) rfl (by rfl) rfl rfl ?_
      conv => whnf
      refine hp.storeW (vs := (Lb.mk (orF B) n).cells) rfl (by repeat (first | exact Rm.here | apply Rm.there)) (by first | exact C2_same _ _ _ _ | exact C4_same _ _ _ _ _ _ _ _ | exact Dc_same _ _ | rfl) rfl rfl rfl ?_
      clear hp
      intro s hp _
      conv => whnf
      refine Sm.ofW ?_
      conv => whnf
      refine hp.loadA (l := (Lb.mk (orF B) n).cells) (by repeat (first | exact Has.here | apply Has.there | (apply Has.swap; repeat (first | exact HasR.here | apply HasR.there)))) rfl (by rfl) rfl rfl ?_
      conv => whnf
      exact ⟨hp.fr, n, hk, (if_neg (fun h => h.elim h0 (fun h => h h1))).symm⟩
    · have q1 : decide (lprintF (Lb.mk (orF B) n) ≠ l) = true := decide_eq_true h1
      repeat (first | (refine Br.no q0 ?_; conv => whnf) | (refine Br.yes q1 ?_; conv => whnf) | (first | (refine Br.yes (by first | with_reducible rfl | with_reducible exact beq_self_eq_true _ | rfl) ?_; conv => whnf) | (refine Br.no (by first | with_reducible rfl | with_reducible exact bne_self_eq_false _ | rfl) ?_; conv => whnf)))
      refine Sm.ofW ?_
      conv => whnf
      repeat (first | (refine Br.no q0 ?_; conv => whnf) | (refine Br.yes q1 ?_; conv => whnf) | (first | (refine Br.yes (by first | with_reducible rfl | with_reducible exact beq_self_eq_true _ | rfl) ?_; conv => whnf) | (refine Br.no (by first | with_reducible rfl | with_reducible exact bne_self_eq_false _ | rfl) ?_; conv => whnf)))
      refine hp.storeW (vs := (Lb.mk 0 0).cells) rfl (by repeat (first | exact Rm.here | apply Rm.there)) (by first | exact C2_same _ _ _ _ | exact C4_same _ _ _ _ _ _ _ _ | exact Dc_same _ _ | rfl) rfl rfl rfl ?_
      clear hp
      intro s hp _
      conv => whnf
      refine hp.loadA (l := (Lb.mk 0 0).cells) (by repeat (first | exact Has.here | apply Has.there | (apply Has.swap; repeat (first | exact HasR.here | apply HasR.there)))) rfl (by rfl) rfl rfl ?_
      conv => whnf
      exact ⟨hp.fr, n, hk, (if_pos (.inr h1)).symm⟩
/-- A text read as a label's. -/
def decF (s : List UInt8) : Lb := ⟨orF (s.drop 2), ((s.headD 0).toNat : Int) - 48⟩
def lreadF (s : List UInt8) : Lb × Int := if s ≠ [] ∧ lprintF (decF s) = s then (decF s, 0) else (⟨0, 0⟩, 2)
theorem dgt_nat : ∀ k, k < 10 → (dgt k).toNat = 48 + k := by decide +kernel
theorem print_form {a : Lb} {s : List UInt8} (h : lprintF a = s) (h0 : s ≠ []) : ∃ n : Nat, n ≤ 3 ∧ a.lev = (n : Int) ∧ a.set < 256 ∧ s = dgt n :: 58 :: (memsF a.set).map dgt := by
  unfold lprintF at h
  split at h
  · rename_i hr
    unfold rightF at hr
    simp at hr
    refine ⟨a.lev.toNat, by omega, by omega, hr.1, h.symm⟩
  · exact absurd h.symm h0
theorem cut_form {n : Nat} (hn : n < 10) (t : List UInt8) : cutA (dgt n :: 58 :: t) = [dgt n] ∧ cutB (dgt n :: 58 :: t) = t := by
  have e : idxL 58 (dgt n :: 58 :: t) 0 = some 1 := by
    unfold idxL
    have : Nat.beq (dgt n).toNat 58 = false := by rw [dgt_nat n hn]; exact beq_no (by omega)
    rw [this]
    unfold idxL
    rfl
  unfold cutA cutB
  rw [e]
  exact ⟨rfl, rfl⟩
theorem read_same {s : List UInt8} {n : Int} (hk : ∀ k, k < 10 → cutA s = [dgt k] → n = (k : Int)) : readA s ⟨orF (cutB s), n⟩ = .tuple #[(lreadF s).1.val, .int .i64 (lreadF s).2] := by
  unfold readA lreadF
  by_cases h0 : s = []
  · rw [if_pos (.inl h0), if_neg (fun h => h.1 h0)]
  by_cases h1 : lprintF ⟨orF (cutB s), n⟩ = s
  · obtain ⟨m, g1, g2, g3, g4⟩ := print_form h1 h0
    have e : decF s = ⟨orF (cutB s), n⟩ := by
      have := (cut_form (show m < 10 by omega) ((memsF (orF (cutB s))).map dgt))
      rw [← g4] at this
      obtain ⟨c1, c2⟩ := this
      unfold decF
      have hd : s.drop 2 = cutB s := by rw [c2]; exact congrArg (List.drop 2) g4
      have hh : s.headD 0 = dgt m := by rw [g4]; rfl
      rw [hd, hh, dgt_nat m (by omega)]
      congr 1
      have : n = (m : Int) := g2
      omega
    rw [if_neg (fun h => h.elim h0 (fun h => h h1)), if_pos ⟨h0, by rw [e]; exact h1⟩, e]
  · have h2 : lprintF (decF s) ≠ s := fun h2 => by
      obtain ⟨m, g1, g2, g3, g4⟩ := print_form h2 h0
      have := (cut_form (show m < 10 by omega) ((memsF (decF s).set).map dgt))
      rw [← g4] at this
      obtain ⟨c1, c2⟩ := this
      have hd : s.drop 2 = cutB s := by rw [c2]; exact congrArg (List.drop 2) g4
      have e : decF s = ⟨orF (cutB s), n⟩ := by
        rw [hk m (by omega) c1, ← g2, ← hd]; rfl
      exact h1 (by rw [← e]; exact h2)
    rw [if_pos (.inr h1), if_neg (fun h => h2 h.2)]
theorem lread_spec {z : St} (wf : WF z) (hg : Gs z) (l : List UInt8) (hl : l.length ≤ 281474976710656) :
    Cw Tryd.prog 22 [sv l] z fun r s' => K0 z s' ∧ r = .tuple #[(lreadF l).1.val, .int .i64 (lreadF l).2] :=
  (lread_walk wf hg l hl).mono fun r s' ⟨h1, n, h2, h3⟩ => ⟨h1, h3.trans (read_same h2)⟩
end Go.Ev
end

/- Labels: equality, chapter 8's example. No condition. -/
noncomputable section
namespace Go.Ev
open Go.Proofs
variable [Lk]
set_option linter.unusedSectionVars false
set_option linter.unusedVariables false
set_option maxRecDepth 100000

def lbE (a b : Lb) : Bool := ((a.set : Int) == (b.set : Int)) && (a.lev == b.lev)
theorem lbE_iff {a b : Lb} : lbE a b = true ↔ a = b := by
  obtain ⟨s, l⟩ := a
  obtain ⟨s', l'⟩ := b
  unfold lbE
  simp
  omega
theorem lb_e (a b : Lb) : evEq Tryd.prog 10000 44 a.val b.val = some (lbE a b) := by
  obtain ⟨k, x⟩ := a
  obtain ⟨k', x'⟩ := b
  have key : ∀ q1 q2 : Bool, (((k : Nat) : Int) == ((k' : Nat) : Int)) = q1 → (x == x') = q2 → evEq Tryd.prog 10000 44 (Lb.mk k x).val (Lb.mk k' x').val = some (q1 && q2) := by
    intro q1 q2 h1 h2
    have hs : Tryd.prog.stoodInHeld 44 = false := by decide +kernel
    conv => lhs; whnf
    rw [hs]
    show (match (some (((k : Nat) : Int) == ((k' : Nat) : Int)) : Option Bool) with | some true => (match (some (x == x') : Option Bool) with | some true => some true | some false => some false | none => none) | some false => some false | none => none) = _
    rw [h1, h2]
    cases q1 <;> cases q2 <;> rfl
  exact key _ _ rfl rfl
theorem lb_eq (a b : Lb) (c : Bool) : evBin Tryd.prog .eql 44 c a.val b.val = some (.bool (lbE a b)) := by
  have hg : Tryd.prog.eqGuardType Tryd.prog.depth 44 = false := by decide +kernel
  show (match !(Tryd.prog.eqGuardType Tryd.prog.depth 44) with | false => none | true => (match evEq Tryd.prog 10000 44 a.val b.val with | some b => some (Value.bool b) | none => none)) = _
  rw [hg, lb_e]; rfl
theorem lb_ne (a b : Lb) (c : Bool) : evBin Tryd.prog .neq 44 c a.val b.val = some (.bool (!(lbE a b))) := by
  have hg : Tryd.prog.eqGuardType Tryd.prog.depth 44 = false := by decide +kernel
  show (match !(Tryd.prog.eqGuardType Tryd.prog.depth 44) with | false => none | true => (match evEq Tryd.prog 10000 44 a.val b.val with | some b => some (Value.bool (!b)) | none => none)) = _
  rw [hg, lb_e]; rfl
theorem read_ex : lreadF [49, 58, 48, 50] = (⟨5, 1⟩, 0) := by kernel_rfl
theorem print_ex : lprintF ⟨5, 1⟩ = [49, 58, 48, 50] := by kernel_rfl
theorem lknown_spec {z : St} (wf : WF z) (hg : Gs z) : Cw Tryd.prog 19 [] z fun r s' => K0 z s' ∧ r = .bool true := by
  have hp : Hp (fun _ => False) z [] [] z := Hp.start _ wf _ (by simp)
  refine Cw.enterS Tryd.func19 rfl rfl ?_
  refine Sm.seqW ?_
  conv => whnf
  refine Sm.seqW ?_
  conv => whnf
  refine hp.alloc (cs := (Lb.mk 0 0).cells) (e := 2) rfl rfl rfl rfl rfl ?_
  clear hp
  intro p1 s hp _
  conv => whnf
  refine hp.storeW (vs := (Lb.mk 5 1).cells) rfl (by repeat (first | exact Rm.here | apply Rm.there)) (by first | exact C2_same _ _ _ _ | exact C4_same _ _ _ _ _ _ _ _ | exact Dc_same _ _ | rfl) rfl rfl rfl ?_
  clear hp
  intro s hp _
  conv => whnf
  refine Sm.live [1] ?_
  conv => whnf
  refine Sm.seqW ?_
  conv => whnf
  refine hp.call (lread_spec hp.wf (hg.keep hp.fr) [49, 58, 48, 50] (by decide)) ?_
  clear hp
  rw [read_ex]
  rintro _ s rfl hp _
  conv => whnf
  refine hp.alloc (cs := (Lb.mk 0 0).cells) (e := 2) rfl rfl rfl rfl rfl ?_
  clear hp
  intro p2 s hp _
  conv => whnf
  refine hp.storeW (vs := (Lb.mk 5 1).cells) rfl (by repeat (first | exact Rm.here | apply Rm.there)) (by first | exact C2_same _ _ _ _ | exact C4_same _ _ _ _ _ _ _ _ | exact Dc_same _ _ | rfl) rfl rfl rfl ?_
  clear hp
  intro s hp _
  conv => whnf
  refine Sm.live [1, 2, 3] ?_
  conv => whnf
  refine Sm.seqW ?_
  conv => whnf
  refine hp.loadA (l := (Lb.mk 5 1).cells) (by repeat (first | exact Has.here | apply Has.there | (apply Has.swap; repeat (first | exact HasR.here | apply HasR.there)))) rfl (by rfl) rfl rfl ?_
  conv => whnf
  refine hp.call (lprint_spec (a := ⟨5, 1⟩) hp.wf ⟨by decide, by unfold inR; decide⟩) ?_
  clear hp
  rintro _ s rfl hp _
  conv => whnf
  rw [print_ex]
  refine Om.of _ (str_eq _ _) ?_
  conv => whnf
  repeat (first | (refine Br.yes (by first | with_reducible rfl | with_reducible exact beq_self_eq_true _ | rfl) ?_; conv => whnf) | (refine Br.no (by first | with_reducible rfl | with_reducible exact bne_self_eq_false _ | rfl) ?_; conv => whnf))
  refine hp.loadA (l := (Lb.mk 5 1).cells) (by repeat (first | exact Has.here | apply Has.there | (apply Has.swap; repeat (first | exact HasR.here | apply HasR.there)))) rfl (by rfl) rfl rfl ?_
  conv => whnf
  repeat (first | (refine Br.yes (by first | with_reducible rfl | with_reducible exact beq_self_eq_true _ | rfl) ?_; conv => whnf) | (refine Br.no (by first | with_reducible rfl | with_reducible exact bne_self_eq_false _ | rfl) ?_; conv => whnf))
  refine hp.loadA (l := (Lb.mk 5 1).cells) (by repeat (first | exact Has.here | apply Has.there | (apply Has.swap; repeat (first | exact HasR.here | apply HasR.there)))) rfl (by rfl) rfl rfl ?_
  conv => whnf
  repeat (first | (refine Br.yes (by first | with_reducible rfl | with_reducible exact beq_self_eq_true _ | rfl) ?_; conv => whnf) | (refine Br.no (by first | with_reducible rfl | with_reducible exact bne_self_eq_false _ | rfl) ?_; conv => whnf))
  refine Om.of _ (lb_eq ⟨5, 1⟩ ⟨5, 1⟩ _) ?_
  conv => whnf
  repeat (first | (refine Br.yes (by first | with_reducible rfl | with_reducible exact beq_self_eq_true _ | rfl) ?_; conv => whnf) | (refine Br.no (by first | with_reducible rfl | with_reducible exact bne_self_eq_false _ | rfl) ?_; conv => whnf))
  refine Sm.ofW ?_
  conv => whnf
  exact ⟨hp.fr, rfl⟩
end Go.Ev
end

/- Labels: an order and its joins, without a program. No condition. -/
noncomputable section
namespace Go.Ev
open Go.Proofs
variable [Lk]
set_option linter.unusedSectionVars false
set_option linter.unusedVariables false
set_option maxRecDepth 100000

/-- A small label: as the laws make them. -/
structure Lb.sm (a : Lb) : Prop where
  set : a.set < 256
  lo : 0 ≤ a.lev
  hi : a.lev ≤ 3
theorem Lb.sm.ok {a : Lb} (h : a.sm) : a.ok := ⟨by have := h.set; omega, by have := h.lo; have := h.hi; unfold inR; omega⟩
theorem bit_big {a k : Nat} (ha : a < 256) (hk : 64 ≤ k) : a.testBit k = false :=
  Nat.testBit_lt_two_pow (Nat.lt_of_lt_of_le ha (Nat.le_trans (show 256 ≤ 2 ^ 64 by decide) (Nat.pow_le_pow_right (by decide) hk)))
theorem belowF_iff {a b : Lb} (ha : a.sm) (hb : b.sm) : belowF a b = true ↔ (∀ k, a.set.testBit k = true → b.set.testBit k = true) ∧ a.lev ≤ b.lev := by
  unfold belowF
  rw [Bool.and_eq_true, decide_eq_true_iff, decide_eq_true_iff, andn_zero ha.ok.1 hb.ok.1]
  constructor
  · rintro ⟨h1, h2⟩
    refine ⟨fun k hk => ?_, h2⟩
    rcases Nat.lt_or_ge k 64 with g | g
    · exact h1 k g hk
    · rw [bit_big ha.set g] at hk; cases hk
  · rintro ⟨h1, h2⟩
    exact ⟨fun k _ hk => h1 k hk, h2⟩
theorem joinF_sm {a b : Lb} (ha : a.sm) (hb : b.sm) : (joinF a b).sm := by
  refine ⟨Nat.or_lt_two_pow (n := 8) ha.set hb.set, ?_, ?_⟩
  · show 0 ≤ if b.lev > a.lev then b.lev else a.lev
    have := ha.lo; have := hb.lo; split <;> omega
  · show (if b.lev > a.lev then b.lev else a.lev) ≤ 3
    have := ha.hi; have := hb.hi; split <;> omega
theorem meetF_sm {a b : Lb} (ha : a.sm) (hb : b.sm) : (meetF a b).sm := by
  refine ⟨Nat.lt_of_le_of_lt Nat.and_le_left ha.set, ?_, ?_⟩
  · show 0 ≤ if b.lev < a.lev then b.lev else a.lev
    have := ha.lo; have := hb.lo; split <;> omega
  · show (if b.lev < a.lev then b.lev else a.lev) ≤ 3
    have := ha.hi; have := hb.hi; split <;> omega
theorem join_bit (a b : Lb) (k : Nat) : (joinF a b).set.testBit k = (a.set.testBit k || b.set.testBit k) := Nat.testBit_or _ _ _
theorem meet_bit (a b : Lb) (k : Nat) : (meetF a b).set.testBit k = (a.set.testBit k && b.set.testBit k) := Nat.testBit_and _ _ _
theorem join_lev (a b : Lb) : (joinF a b).lev = if b.lev > a.lev then b.lev else a.lev := rfl
theorem meet_lev (a b : Lb) : (meetF a b).lev = if b.lev < a.lev then b.lev else a.lev := rfl
theorem Lb.ext' {a b : Lb} (h1 : ∀ k, a.set.testBit k = b.set.testBit k) (h2 : a.lev = b.lev) : a = b := by
  obtain ⟨s, l⟩ := a
  obtain ⟨s', l'⟩ := b
  have : s = s' := Nat.eq_of_testBit_eq h1
  have h2 : l = l' := h2
  subst this h2; rfl
theorem below_refl {a : Lb} (ha : a.sm) : belowF a a = true := (belowF_iff ha ha).2 ⟨fun _ h => h, Int.le_refl _⟩
theorem below_anti {a b : Lb} (ha : a.sm) (hb : b.sm) (h1 : belowF a b = true) (h2 : belowF b a = true) : lbE a b = true := by
  obtain ⟨p1, p2⟩ := (belowF_iff ha hb).1 h1
  obtain ⟨q1, q2⟩ := (belowF_iff hb ha).1 h2
  refine lbE_iff.2 (Lb.ext' (fun k => ?_) (by omega))
  rw [Bool.eq_iff_iff]
  exact ⟨p1 k, q1 k⟩
theorem below_trans {a b c : Lb} (ha : a.sm) (hb : b.sm) (hc : c.sm) (h1 : belowF a b = true) (h2 : belowF b c = true) : belowF a c = true := by
  obtain ⟨p1, p2⟩ := (belowF_iff ha hb).1 h1
  obtain ⟨q1, q2⟩ := (belowF_iff hb hc).1 h2
  exact (belowF_iff ha hc).2 ⟨fun k h => q1 k (p1 k h), by omega⟩
theorem below_j1 {a b : Lb} (ha : a.sm) (hb : b.sm) : belowF a (joinF a b) = true := by
  refine (belowF_iff ha (joinF_sm ha hb)).2 ⟨fun k h => ?_, ?_⟩
  · rw [join_bit, h]; rfl
  · rw [join_lev]; split <;> omega
theorem below_j2 {a b : Lb} (ha : a.sm) (hb : b.sm) : belowF b (joinF a b) = true := by
  refine (belowF_iff hb (joinF_sm ha hb)).2 ⟨fun k h => ?_, ?_⟩
  · rw [join_bit, h]; simp
  · rw [join_lev]; split <;> omega
theorem below_m1 {a b : Lb} (ha : a.sm) (hb : b.sm) : belowF (meetF a b) a = true := by
  refine (belowF_iff (meetF_sm ha hb) ha).2 ⟨fun k h => ?_, ?_⟩
  · rw [meet_bit, Bool.and_eq_true] at h; exact h.1
  · rw [meet_lev]; split <;> omega
theorem below_m2 {a b : Lb} (ha : a.sm) (hb : b.sm) : belowF (meetF a b) b = true := by
  refine (belowF_iff (meetF_sm ha hb) hb).2 ⟨fun k h => ?_, ?_⟩
  · rw [meet_bit, Bool.and_eq_true] at h; exact h.2
  · rw [meet_lev]; split <;> omega
theorem below_jl {a b c : Lb} (ha : a.sm) (hb : b.sm) (hc : c.sm) (h1 : belowF a c = true) (h2 : belowF b c = true) : belowF (joinF a b) c = true := by
  obtain ⟨p1, p2⟩ := (belowF_iff ha hc).1 h1
  obtain ⟨q1, q2⟩ := (belowF_iff hb hc).1 h2
  refine (belowF_iff (joinF_sm ha hb) hc).2 ⟨fun k h => ?_, ?_⟩
  · rw [join_bit, Bool.or_eq_true] at h
    exact h.elim (p1 k) (q1 k)
  · rw [join_lev]; split <;> omega
theorem below_mg {a b c : Lb} (ha : a.sm) (hb : b.sm) (hc : c.sm) (h1 : belowF c a = true) (h2 : belowF c b = true) : belowF c (meetF a b) = true := by
  obtain ⟨p1, p2⟩ := (belowF_iff hc ha).1 h1
  obtain ⟨q1, q2⟩ := (belowF_iff hc hb).1 h2
  refine (belowF_iff hc (meetF_sm ha hb)).2 ⟨fun k h => ?_, ?_⟩
  · rw [meet_bit, p1 k h, q1 k h]; rfl
  · rw [meet_lev]; split <;> omega
theorem join_comm (a b : Lb) : joinF a b = joinF b a := by
  refine Lb.ext' (fun k => ?_) ?_
  · rw [join_bit, join_bit, Bool.or_comm]
  · rw [join_lev, join_lev]; split <;> split <;> omega
theorem meet_comm (a b : Lb) : meetF a b = meetF b a := by
  refine Lb.ext' (fun k => ?_) ?_
  · rw [meet_bit, meet_bit, Bool.and_comm]
  · rw [meet_lev, meet_lev]; split <;> split <;> omega
theorem join_assoc (a b c : Lb) : joinF a (joinF b c) = joinF (joinF a b) c := by
  refine Lb.ext' (fun k => ?_) ?_
  · rw [join_bit, join_bit, join_bit, join_bit, Bool.or_assoc]
  · rw [join_lev, join_lev, join_lev, join_lev]; repeat' split
    all_goals omega
theorem join_meet (a b : Lb) : joinF a (meetF a b) = a := by
  refine Lb.ext' (fun k => ?_) ?_
  · rw [join_bit, meet_bit]; cases a.set.testBit k <;> simp
  · rw [join_lev, meet_lev]; repeat' split
    all_goals omega
theorem meet_join (a b : Lb) : meetF a (joinF a b) = a := by
  refine Lb.ext' (fun k => ?_) ?_
  · rw [meet_bit, join_bit]; cases a.set.testBit k <;> simp
  · rw [meet_lev, join_lev]; repeat' split
    all_goals omega
theorem below_join {a b : Lb} (ha : a.sm) (hb : b.sm) : belowF a b = lbE (joinF a b) b := by
  rw [Bool.eq_iff_iff, lbE_iff]
  constructor
  · intro h
    obtain ⟨p1, p2⟩ := (belowF_iff ha hb).1 h
    refine Lb.ext' (fun k => ?_) ?_
    · rw [join_bit, Bool.eq_iff_iff, Bool.or_eq_true]
      exact ⟨fun h => h.elim (p1 k) id, .inr⟩
    · rw [join_lev]; split <;> omega
  · intro h
    have := below_j1 ha hb
    rw [h] at this
    exact this
end Go.Ev
end

/- LabelOrder walked. No condition. -/
noncomputable section
namespace Go.Ev
open Go.Proofs
variable [Lk]
set_option linter.unusedSectionVars false
set_option linter.unusedVariables false
set_option maxRecDepth 100000

theorem lbool_eq {P : Program} {t : TypeId} (hu : P.underlying t = some .bool) (c a b : Bool) : evBin P .eql t c (.bool a) (.bool b) = some (.bool (a == b)) := by
  have h : evEq P (9999 + 1) t (.bool a) (.bool b) = some (a == b) := by
    unfold evEq
    rw [hu]
  show (match evEq P 10000 t (.bool a) (.bool b) with
    | some r => some (Value.bool r)
    | none => none) = _
  rw [h]
theorem labelOrder_walk {s0 : St} (wf : WF s0) (hg : Gs s0) {n level m other k third : Int} (hn : inR n) (hl : inR level) (hm : inR m) (ho : inR other) (hk : inR k) (ht : inR third) :
    Cw Tryd.prog 7 [.int .i64 n, .int .i64 level, .int .i64 m, .int .i64 other, .int .i64 k, .int .i64 third] s0 fun r _ => r = .bool true := by
  have hp : Hp (fun _ => False) s0 [] [] s0 := Hp.start _ wf _ (by simp)
  refine Cw.enterS Tryd.func7 rfl rfl ?_
  refine Sm.seqW ?_
  conv => whnf
  refine Sm.live [0, 1, 2, 3, 4, 5] ?_
  conv => whnf
  refine Sm.seqW ?_
  conv => whnf
  refine (pick_spec _ hn (m := 256) (by decide) (by decide)).mono ?_
  rintro _ s1 ⟨h1, rfl⟩
  obtain rfl := h1.symm
  conv => whnf
  obtain ⟨sa, esa, fsa⟩ : ∃ sa : Nat, n % 256 = (sa : Int) ∧ sa < 256 := ⟨(n % 256).toNat, by omega, by omega⟩
  rw [esa, show IntKind.u64.wrap (sa : Int) = (sa : Int) by rw [wrap_u64]; omega]
  refine (pick_spec _ hl (m := 4) (by decide) (by decide)).mono ?_
  rintro _ s1 ⟨h1, rfl⟩
  obtain rfl := h1.symm
  conv => whnf
  obtain ⟨la, ela, fla⟩ : ∃ la : Int, level % 4 = la ∧ (0 ≤ la ∧ la ≤ 3) := ⟨level % 4, rfl, by omega⟩
  rw [ela]
  obtain ⟨a, ea⟩ : ∃ a, a = Lb.mk sa la := ⟨_, rfl⟩
  have ha : a.sm := by rw [ea]; exact ⟨fsa, fla.1, fla.2⟩
  refine hp.alloc (cs := (Lb.mk 0 0).cells) (e := 2) rfl rfl rfl rfl rfl ?_
  clear hp
  intro p13 s hp _
  conv => whnf
  refine hp.storeW (vs := (Lb.mk sa la).cells) rfl (by repeat (first | exact Rm.here | apply Rm.there)) (by first | exact C2_same _ _ _ _ | exact C4_same _ _ _ _ _ _ _ _ | exact Dc_same _ _ | rfl) rfl rfl rfl ?_
  clear hp
  intro s hp _
  conv => whnf
  rw [← ea] at hp
  clear ea esa fsa ela fla
  refine Sm.live [2, 3, 4, 5, 13] ?_
  conv => whnf
  refine Sm.seqW ?_
  conv => whnf
  refine (pick_spec _ hm (m := 256) (by decide) (by decide)).mono ?_
  rintro _ s1 ⟨h1, rfl⟩
  obtain rfl := h1.symm
  conv => whnf
  obtain ⟨sb, esb, fsb⟩ : ∃ sb : Nat, m % 256 = (sb : Int) ∧ sb < 256 := ⟨(m % 256).toNat, by omega, by omega⟩
  rw [esb, show IntKind.u64.wrap (sb : Int) = (sb : Int) by rw [wrap_u64]; omega]
  refine (pick_spec _ ho (m := 4) (by decide) (by decide)).mono ?_
  rintro _ s1 ⟨h1, rfl⟩
  obtain rfl := h1.symm
  conv => whnf
  obtain ⟨lb, elb, flb⟩ : ∃ lb : Int, other % 4 = lb ∧ (0 ≤ lb ∧ lb ≤ 3) := ⟨other % 4, rfl, by omega⟩
  rw [elb]
  obtain ⟨b, eb⟩ : ∃ b, b = Lb.mk sb lb := ⟨_, rfl⟩
  have hb : b.sm := by rw [eb]; exact ⟨fsb, flb.1, flb.2⟩
  refine hp.alloc (cs := (Lb.mk 0 0).cells) (e := 2) rfl rfl rfl rfl rfl ?_
  clear hp
  intro p14 s hp _
  conv => whnf
  refine hp.storeW (vs := (Lb.mk sb lb).cells) rfl (by repeat (first | exact Rm.here | apply Rm.there)) (by first | exact C2_same _ _ _ _ | exact C4_same _ _ _ _ _ _ _ _ | exact Dc_same _ _ | rfl) rfl rfl rfl ?_
  clear hp
  intro s hp _
  conv => whnf
  rw [← eb] at hp
  clear eb esb fsb elb flb
  refine Sm.live [4, 5, 13, 14] ?_
  conv => whnf
  refine Sm.seqW ?_
  conv => whnf
  refine (pick_spec _ hk (m := 256) (by decide) (by decide)).mono ?_
  rintro _ s1 ⟨h1, rfl⟩
  obtain rfl := h1.symm
  conv => whnf
  obtain ⟨sc, esc, fsc⟩ : ∃ sc : Nat, k % 256 = (sc : Int) ∧ sc < 256 := ⟨(k % 256).toNat, by omega, by omega⟩
  rw [esc, show IntKind.u64.wrap (sc : Int) = (sc : Int) by rw [wrap_u64]; omega]
  refine (pick_spec _ ht (m := 4) (by decide) (by decide)).mono ?_
  rintro _ s1 ⟨h1, rfl⟩
  obtain rfl := h1.symm
  conv => whnf
  obtain ⟨lc, elc, flc⟩ : ∃ lc : Int, third % 4 = lc ∧ (0 ≤ lc ∧ lc ≤ 3) := ⟨third % 4, rfl, by omega⟩
  rw [elc]
  obtain ⟨c, ec⟩ : ∃ c, c = Lb.mk sc lc := ⟨_, rfl⟩
  have hc : c.sm := by rw [ec]; exact ⟨fsc, flc.1, flc.2⟩
  refine hp.alloc (cs := (Lb.mk 0 0).cells) (e := 2) rfl rfl rfl rfl rfl ?_
  clear hp
  intro p15 s hp _
  conv => whnf
  refine hp.storeW (vs := (Lb.mk sc lc).cells) rfl (by repeat (first | exact Rm.here | apply Rm.there)) (by first | exact C2_same _ _ _ _ | exact C4_same _ _ _ _ _ _ _ _ | exact Dc_same _ _ | rfl) rfl rfl rfl ?_
  clear hp
  intro s hp _
  conv => whnf
  rw [← ec] at hp
  clear ec esc fsc elc flc
  refine Sm.live [13, 14, 15] ?_
  conv => whnf
  refine Sm.seqW ?_
  conv => whnf
  (refine hp.loadA (by repeat (first | exact Has.here | apply Has.there | (apply Has.swap; repeat (first | exact HasR.here | apply HasR.there)))) rfl (by rfl) rfl rfl ?_; conv => whnf)
  (refine hp.loadA (by repeat (first | exact Has.here | apply Has.there | (apply Has.swap; repeat (first | exact HasR.here | apply HasR.there)))) rfl (by rfl) rfl rfl ?_; conv => whnf)
  refine hp.call (join_spec hp.wf (a := a) (b := b) ha.ok hb.ok) ?_
  clear hp
  rintro _ s rfl hp _
  conv => whnf
  obtain ⟨j, ej⟩ : ∃ j, j = joinF a b := ⟨_, rfl⟩
  have hj : j.sm := by rw [ej]; exact joinF_sm ha hb
  rw [← ej]
  refine hp.alloc (cs := (Lb.mk 0 0).cells) (e := 2) rfl rfl rfl rfl rfl ?_
  clear hp
  intro p16 s hp _
  conv => whnf
  refine hp.storeW (vs := j.cells) rfl (by repeat (first | exact Rm.here | apply Rm.there)) (by first | exact C2_same _ _ _ _ | exact C4_same _ _ _ _ _ _ _ _ | exact Dc_same _ _ | rfl) rfl rfl rfl ?_
  clear hp
  intro s hp _
  conv => whnf
  refine Sm.live [13, 14, 15, 16] ?_
  conv => whnf
  refine Sm.seqW ?_
  conv => whnf
  (refine hp.loadA (by repeat (first | exact Has.here | apply Has.there | (apply Has.swap; repeat (first | exact HasR.here | apply HasR.there)))) rfl (by rfl) rfl rfl ?_; conv => whnf)
  (refine hp.loadA (by repeat (first | exact Has.here | apply Has.there | (apply Has.swap; repeat (first | exact HasR.here | apply HasR.there)))) rfl (by rfl) rfl rfl ?_; conv => whnf)
  refine hp.call (meet_spec hp.wf (a := a) (b := b) ha.ok hb.ok) ?_
  clear hp
  rintro _ s rfl hp _
  conv => whnf
  obtain ⟨i, ei⟩ : ∃ i, i = meetF a b := ⟨_, rfl⟩
  have hi : i.sm := by rw [ei]; exact meetF_sm ha hb
  rw [← ei]
  refine hp.alloc (cs := (Lb.mk 0 0).cells) (e := 2) rfl rfl rfl rfl rfl ?_
  clear hp
  intro p17 s hp _
  conv => whnf
  refine hp.storeW (vs := i.cells) rfl (by repeat (first | exact Rm.here | apply Rm.there)) (by first | exact C2_same _ _ _ _ | exact C4_same _ _ _ _ _ _ _ _ | exact Dc_same _ _ | rfl) rfl rfl rfl ?_
  clear hp
  intro s hp _
  conv => whnf
  refine Sm.live [13, 14, 15, 16, 17] ?_
  conv => whnf
  have F1 : belowF a a = true := below_refl ha
  have F2 : belowF a b = true → belowF b a = true → lbE a b = true := below_anti ha hb
  have F3 : belowF a b = true → belowF b c = true → belowF a c = true := below_trans ha hb hc
  have F4 : belowF a j = true := by rw [ej]; exact below_j1 ha hb
  have F5 : belowF b j = true := by rw [ej]; exact below_j2 ha hb
  have F6 : belowF i a = true := by rw [ei]; exact below_m1 ha hb
  have F7 : belowF i b = true := by rw [ei]; exact below_m2 ha hb
  have F8 : belowF a c = true → belowF b c = true → belowF j c = true := by rw [ej]; exact below_jl ha hb hc
  have F9 : belowF c a = true → belowF c b = true → belowF c i = true := by rw [ei]; exact below_mg ha hb hc
  have G1 : (!(belowF a a)) = false := by rw [F1]; rfl
  have G4 : (!(belowF a j)) = false := by rw [F4]; rfl
  have G5 : (!(belowF b j)) = false := by rw [F5]; rfl
  have G6 : (!(belowF i a)) = false := by rw [F6]; rfl
  have G7 : (!(belowF i b)) = false := by rw [F7]; rfl
  refine Sm.seq ?_
  refine Sm.seqC (fun e L' s' => e = .normal ∧ Hp (fun _ => False) s0 [] [blkA p17 p17 i.cells 2, blkA p16 p16 j.cells 2, blkA p15 p15 c.cells 2, blkA p14 p14 b.cells 2, blkA p13 p13 a.cells 2] s' ∧ Sub [(13, .pointer (some ⟨p13, 0, none⟩)), (14, .pointer (some ⟨p14, 0, none⟩)), (15, .pointer (some ⟨p15, 0, none⟩)), (16, .pointer (some ⟨p16, 0, none⟩)), (17, .pointer (some ⟨p17, 0, none⟩)), (80, .bool false)] L') ?_ ?_
  · conv => whnf
    refine hp.call (lknown_spec hp.wf (hg.keep hp.fr)) ?_
    clear hp
    rintro _ s rfl hp _
    conv => whnf
    repeat' (first
      | (refine Br.yes (by first | with_reducible rfl | with_reducible assumption | rfl) ?_; conv => whnf)
      | (refine Br.no (by first | with_reducible rfl | with_reducible assumption | rfl) ?_; conv => whnf)
      | (refine hp.loadA (by repeat (first | exact Has.here | apply Has.there | (apply Has.swap; repeat (first | exact HasR.here | apply HasR.there)))) rfl (by rfl) rfl rfl ?_; conv => whnf)
      
      | (refine hp.call (below_spec hp.wf (a := a) (b := a) ha.ok ha.ok) ?_; clear hp; rintro _ s rfl hp _; conv => whnf)
      | (refine hp.call (below_spec hp.wf (a := a) (b := b) ha.ok hb.ok) ?_; clear hp; rintro _ s rfl hp _; conv => whnf)
      | (refine hp.call (below_spec hp.wf (a := b) (b := a) hb.ok ha.ok) ?_; clear hp; rintro _ s rfl hp _; conv => whnf)
      | (refine hp.call (below_spec hp.wf (a := b) (b := c) hb.ok hc.ok) ?_; clear hp; rintro _ s rfl hp _; conv => whnf)
      | (refine hp.call (below_spec hp.wf (a := a) (b := c) ha.ok hc.ok) ?_; clear hp; rintro _ s rfl hp _; conv => whnf)
      | (refine Om.of _ (lb_ne a b _) ?_; conv => whnf)
      | (refine Br.mk (fun hq => ?_) (fun hq => ?_) <;> conv => whnf))
    all_goals first
      | exact ⟨rfl, hp.pik (by repeat (first | exact Pik.nil | exact Pik.refl _ | exact Rm.here | apply Rm.there | apply Pik.cons | apply Pik.skip)), subK_ok ⟨rfl, rfl, rfl, rfl, rfl, rfl, trivial⟩⟩
      | exact ⟨rfl, hp.pik (by repeat (first | exact Pik.nil | exact Pik.refl _ | exact Rm.here | apply Rm.there | apply Pik.cons | apply Pik.skip)), subK_ok ⟨rfl, rfl, rfl, rfl, rfl, congrArg (fun x => some (Value.bool x)) (by first | assumption | (rw [F2 (by assumption) (by assumption)]; rfl) | (rw [F3 (by assumption) (by assumption)]; rfl)), trivial⟩⟩
      | exact absurd (show (!(lbE a b)) = true by assumption) (by rw [F2 (by assumption) (by assumption)]; decide)
  clear hp
  rintro e L' s ⟨rfl, hp, hs⟩
  refine Sm.weak _ hs ?_
  clear hs
  refine Sm.ofW ?_
  conv => whnf
  repeat (first | (refine Br.yes (by first | with_reducible rfl | with_reducible exact beq_self_eq_true _ | rfl) ?_; conv => whnf) | (refine Br.no (by first | with_reducible rfl | with_reducible exact bne_self_eq_false _ | rfl) ?_; conv => whnf))
  refine Sm.seq ?_
  refine Sm.seqC (fun e L' s' => e = .normal ∧ Hp (fun _ => False) s0 [] [blkA p17 p17 i.cells 2, blkA p16 p16 j.cells 2, blkA p15 p15 c.cells 2, blkA p14 p14 b.cells 2, blkA p13 p13 a.cells 2] s' ∧ Sub [(13, .pointer (some ⟨p13, 0, none⟩)), (14, .pointer (some ⟨p14, 0, none⟩)), (15, .pointer (some ⟨p15, 0, none⟩)), (16, .pointer (some ⟨p16, 0, none⟩)), (17, .pointer (some ⟨p17, 0, none⟩)), (134, .bool false)] L') ?_ ?_
  · conv => whnf
    repeat' (first
      | (refine Br.yes (by first | with_reducible rfl | with_reducible assumption | rfl) ?_; conv => whnf)
      | (refine Br.no (by first | with_reducible rfl | with_reducible assumption | rfl) ?_; conv => whnf)
      | (refine hp.loadA (by repeat (first | exact Has.here | apply Has.there | (apply Has.swap; repeat (first | exact HasR.here | apply HasR.there)))) rfl (by rfl) rfl rfl ?_; conv => whnf)
      
      | (refine hp.call (below_spec hp.wf (a := a) (b := j) ha.ok hj.ok) ?_; clear hp; rintro _ s rfl hp _; conv => whnf)
      | (refine hp.call (below_spec hp.wf (a := b) (b := j) hb.ok hj.ok) ?_; clear hp; rintro _ s rfl hp _; conv => whnf)
      | (refine hp.call (below_spec hp.wf (a := i) (b := a) hi.ok ha.ok) ?_; clear hp; rintro _ s rfl hp _; conv => whnf)
      | (refine hp.call (below_spec hp.wf (a := i) (b := b) hi.ok hb.ok) ?_; clear hp; rintro _ s rfl hp _; conv => whnf)
      | (refine hp.call (below_spec hp.wf (a := a) (b := c) ha.ok hc.ok) ?_; clear hp; rintro _ s rfl hp _; conv => whnf)
      | (refine hp.call (below_spec hp.wf (a := b) (b := c) hb.ok hc.ok) ?_; clear hp; rintro _ s rfl hp _; conv => whnf)
      | (refine hp.call (below_spec hp.wf (a := j) (b := c) hj.ok hc.ok) ?_; clear hp; rintro _ s rfl hp _; conv => whnf)
      | (refine hp.call (below_spec hp.wf (a := c) (b := a) hc.ok ha.ok) ?_; clear hp; rintro _ s rfl hp _; conv => whnf)
      | (refine hp.call (below_spec hp.wf (a := c) (b := b) hc.ok hb.ok) ?_; clear hp; rintro _ s rfl hp _; conv => whnf)
      | (refine hp.call (below_spec hp.wf (a := c) (b := i) hc.ok hi.ok) ?_; clear hp; rintro _ s rfl hp _; conv => whnf)
      | (refine Br.mk (fun hq => ?_) (fun hq => ?_) <;> conv => whnf))
    all_goals first
      | exact ⟨rfl, hp.pik (by repeat (first | exact Pik.nil | exact Pik.refl _ | exact Rm.here | apply Rm.there | apply Pik.cons | apply Pik.skip)), subK_ok ⟨rfl, rfl, rfl, rfl, rfl, rfl, trivial⟩⟩
      | exact ⟨rfl, hp.pik (by repeat (first | exact Pik.nil | exact Pik.refl _ | exact Rm.here | apply Rm.there | apply Pik.cons | apply Pik.skip)), subK_ok ⟨rfl, rfl, rfl, rfl, rfl, congrArg (fun x => some (Value.bool x)) (by first | assumption | (rw [F8 (by assumption) (by assumption)]; rfl) | (rw [F9 (by assumption) (by assumption)]; rfl)), trivial⟩⟩
      | exact absurd (show (!(belowF j c)) = true by assumption) (by rw [F8 (by assumption) (by assumption)]; decide)
      | exact absurd (show (!(belowF c i)) = true by assumption) (by rw [F9 (by assumption) (by assumption)]; decide)
  clear hp
  rintro e L' s ⟨rfl, hp, hs⟩
  refine Sm.weak _ hs ?_
  clear hs
  refine Sm.ofW ?_
  conv => whnf
  repeat (first | (refine Br.yes (by first | with_reducible rfl | with_reducible exact beq_self_eq_true _ | rfl) ?_; conv => whnf) | (refine Br.no (by first | with_reducible rfl | with_reducible exact bne_self_eq_false _ | rfl) ?_; conv => whnf))
  refine Sm.seqW ?_
  conv => whnf
  refine ⟨[0, 0, 0, 6, 15, 31, 63, 63, 63, 447, 1023, 2047, 4095, 8191, 8191, 8191, 57343, 131071, 8191, 8191, 1048575, 2097151, 4194303, 8388607, 16777215, 16777215, 67108863, 16777215, 268435455, 536870911, 1073741823, 2147483647, 2147483647, 8589934591, 2147483647, 34359738367, 68719476735, 137438953471, 274877906943, 274877906943, 1099511627775, 274877906943, 274877906943, 6871947673599, 17592186044415, 35184372088831, 70368744177663], by decide +kernel, by decide +kernel, ?_⟩
  conv => whnf
  have H1 : lbE j (joinF b a) = true := lbE_iff.2 (by rw [ej, join_comm])
  have H2 : lbE i (meetF b a) = true := lbE_iff.2 (by rw [ei, meet_comm])
  have H3 : lbE (joinF a (joinF b c)) (joinF j c) = true := lbE_iff.2 (by rw [ej, join_assoc])
  have H4 : lbE (joinF a i) a = true := lbE_iff.2 (by rw [ei, join_meet])
  have H5 : lbE (meetF a j) a = true := lbE_iff.2 (by rw [ej, meet_join])
  have H6 : (belowF a b == lbE j b) = true := by rw [ej, below_join ha hb]; simp
  repeat (first
      | (refine Br.yes (by first | with_reducible rfl | with_reducible assumption | rfl) ?_; conv => whnf)
      | (refine Br.no (by first | with_reducible rfl | with_reducible assumption | rfl) ?_; conv => whnf)
      | (refine hp.loadA (by repeat (first | exact Has.here | apply Has.there | (apply Has.swap; repeat (first | exact HasR.here | apply HasR.there)))) rfl (by rfl) rfl rfl ?_; conv => whnf)
      
      | (refine hp.rst.call (below_spec hp.rst.wf (a := a) (b := b) ha.ok hb.ok) ?_; rintro _ s1 rfl h1 k1; (conv => whnf); refine hp.dkN h1 k1 ?_; clear hp h1 k1; intro s hp; conv => whnf)
      | (refine hp.rst.call (join_spec hp.rst.wf (a := b) (b := a) hb.ok ha.ok) ?_; rintro _ s1 rfl h1 k1; (conv => whnf); refine hp.dkN h1 k1 ?_; clear hp h1 k1; intro s hp; conv => whnf)
      | (refine hp.rst.call (join_spec hp.rst.wf (a := b) (b := c) hb.ok hc.ok) ?_; rintro _ s1 rfl h1 k1; (conv => whnf); refine hp.dkN h1 k1 ?_; clear hp h1 k1; intro s hp; conv => whnf)
      | (refine hp.rst.call (join_spec hp.rst.wf (a := j) (b := c) hj.ok hc.ok) ?_; rintro _ s1 rfl h1 k1; (conv => whnf); refine hp.dkN h1 k1 ?_; clear hp h1 k1; intro s hp; conv => whnf)
      | (refine hp.rst.call (join_spec hp.rst.wf (a := a) (b := i) ha.ok hi.ok) ?_; rintro _ s1 rfl h1 k1; (conv => whnf); refine hp.dkN h1 k1 ?_; clear hp h1 k1; intro s hp; conv => whnf)
      | (refine hp.rst.call (meet_spec hp.rst.wf (a := b) (b := a) hb.ok ha.ok) ?_; rintro _ s1 rfl h1 k1; (conv => whnf); refine hp.dkN h1 k1 ?_; clear hp h1 k1; intro s hp; conv => whnf)
      | (refine hp.rst.call (meet_spec hp.rst.wf (a := a) (b := j) ha.ok hj.ok) ?_; rintro _ s1 rfl h1 k1; (conv => whnf); refine hp.dkN h1 k1 ?_; clear hp h1 k1; intro s hp; conv => whnf)
      | (refine Om.of _ (lb_eq j (joinF b a) _) ?_; conv => whnf)
      | (refine Om.of _ (lb_eq i (meetF b a) _) ?_; conv => whnf)
      | (refine Om.of _ (lb_eq (joinF a (joinF b c)) (joinF j c) _) ?_; conv => whnf)
      | (refine Om.of _ (lb_eq (joinF a i) a _) ?_; conv => whnf)
      | (refine Om.of _ (lb_eq (meetF a j) a _) ?_; conv => whnf)
      | (refine Om.of _ (lb_eq j b _) ?_; conv => whnf)
      | (refine hp.rst.call (join_spec hp.rst.wf (a := a) (b := joinF b c) ha.ok (joinF_sm hb hc).ok) ?_; rintro _ s1 rfl h1 k1; (conv => whnf); refine hp.dkN h1 k1 ?_; clear hp h1 k1; intro s hp; conv => whnf)
      | (refine Om.of _ (lbool_eq Tryd.underlying4 _ _ _) ?_; conv => whnf))
  refine Sm.ofW ?_
  conv => whnf
  exact ⟨congrArg Value.bool (by first | rfl | exact H6)⟩
end Go.Ev
end

/- LabelBack walked. No condition. -/
noncomputable section
namespace Go.Ev
open Go.Proofs
variable [Lk]
set_option linter.unusedSectionVars false
set_option linter.unusedVariables false
set_option maxRecDepth 100000

def orM (l : List Nat) : Nat := l.foldl (fun n k => n ||| 2 ^ k) 0
theorem orM_succ (l : List Nat) {i : Nat} (h : i < l.length) : orM (l.take (i + 1)) = orM (l.take i) ||| 2 ^ l[i] := by
  rw [List.take_add_one, List.getElem?_eq_getElem h, Option.toList_some]
  unfold orM
  rw [List.foldl_append]; rfl
theorem orM_lt' : ∀ (l : List Nat) (n : Nat), n < 256 → (∀ k ∈ l, k < 8) → l.foldl (fun n k => n ||| 2 ^ k) n < 256
  | [], n, h, _ => h
  | c :: l, n, h, hl => orM_lt' l _ (Nat.or_lt_two_pow (n := 8) h (Nat.pow_lt_pow_right (by decide) (hl c (by simp)))) (fun k hk => hl k (by simp [hk]))
theorem orM_lt {l : List Nat} (h : ∀ k ∈ l, k < 8) : orM l < 256 := orM_lt' l 0 (by decide) h
theorem orM_mems : ∀ s, s < 256 → orM (memsF s) = s := by decide +kernel
theorem orF_mems : ∀ s, s < 256 → orF ((memsF s).map dgt) = s := by decide +kernel
theorem sm_right {a : Lb} (ha : a.sm) : rightF a = true := by
  unfold rightF
  have := ha.set; have := ha.lo; have := ha.hi
  simp; omega
theorem print_sm {a : Lb} (ha : a.sm) : lprintF a = dgt a.lev.toNat :: 58 :: (memsF a.set).map dgt := by
  unfold lprintF
  rw [if_pos (sm_right ha)]
theorem dec_print {a : Lb} (ha : a.sm) : decF (lprintF a) = a := by
  have h1 := ha.lo; have h2 := ha.hi
  rw [print_sm ha]
  unfold decF
  show Lb.mk (orF ((memsF a.set).map dgt)) (((dgt a.lev.toNat).toNat : Int) - 48) = a
  rw [orF_mems _ ha.set, dgt_nat _ (by omega)]
  have : ((48 + a.lev.toNat : Nat) : Int) - 48 = a.lev := by omega
  rw [this]
theorem lread_print {a : Lb} (ha : a.sm) : lreadF (lprintF a) = (a, 0) := by
  unfold lreadF
  rw [dec_print ha, if_pos ⟨by rw [print_sm ha]; simp, rfl⟩]
theorem lprint_len (a : Lb) : (lprintF a).length ≤ 10 := by
  unfold lprintF
  have := memsF_len a.set
  split
  · simp; omega
  · simp
theorem ofF_sm {k : Nat} {l : Int} (hk : k < 8) (h0 : 0 ≤ l) (h3 : l ≤ 3) : ofF k l = ⟨2 ^ k, l⟩ := by
  have : levF l = l := by unfold levF; repeat' split
                          all_goals omega
  unfold ofF
  rw [if_pos (by omega), this]; rfl
theorem of_below {a : Lb} (ha : a.sm) {k : Nat} (hk : k ∈ memsF a.set) : belowF (ofF k a.lev) a = true := by
  have h8 := memsF_lt hk
  rw [ofF_sm h8 ha.lo ha.hi]
  rw [mems_eq, List.mem_filter] at hk
  refine (belowF_iff (a := ⟨2 ^ k, a.lev⟩) ⟨Nat.pow_lt_pow_right (by decide) (show k < 8 from h8), ha.lo, ha.hi⟩ ha).2 ⟨fun i hi => ?_, Int.le_refl _⟩
  have : (2 ^ k).testBit i = true := hi
  rw [Nat.testBit_two_pow] at this
  rw [← of_decide_eq_true this]; exact hk.2
theorem join_of {a : Lb} (ha : a.sm) {k S : Nat} (h8 : k < 8) : joinF ⟨S, a.lev⟩ (ofF k 0) = ⟨S ||| 2 ^ k, a.lev⟩ := by
  rw [ofF_sm h8 (Int.le_refl _) (by decide)]
  unfold joinF
  show Lb.mk (S ||| 2 ^ k) (if 0 > a.lev then 0 else a.lev) = _
  rw [if_neg (by have := ha.lo; omega)]
theorem labelBack_walk {s0 : St} (wf : WF s0) (hg : Gs s0) {n level : Int} (hn : inR n) (hl : inR level) :
    Cw Tryd.prog 9 [.int .i64 n, .int .i64 level] s0 fun r _ => r = .bool true := by
  have hp : Hp (fun _ => False) s0 [] [] s0 := Hp.start _ wf _ (by simp)
  refine Cw.enterS Tryd.func9 rfl rfl ?_
  refine Sm.seqW ?_
  conv => whnf
  refine Sm.live [0, 1] ?_
  conv => whnf
  refine Sm.seqW ?_
  conv => whnf
  refine (pick_spec _ hn (m := 256) (by decide) (by decide)).mono ?_
  rintro _ s1 ⟨h1, rfl⟩
  obtain rfl := h1.symm
  conv => whnf
  obtain ⟨sa, esa, fsa⟩ : ∃ sa : Nat, n % 256 = (sa : Int) ∧ sa < 256 := ⟨(n % 256).toNat, by omega, by omega⟩
  rw [esa, show IntKind.u64.wrap (sa : Int) = (sa : Int) by rw [wrap_u64]; omega]
  refine (pick_spec _ hl (m := 4) (by decide) (by decide)).mono ?_
  rintro _ s1 ⟨h1, rfl⟩
  obtain rfl := h1.symm
  conv => whnf
  obtain ⟨la, ela, fla⟩ : ∃ la : Int, level % 4 = la ∧ (0 ≤ la ∧ la ≤ 3) := ⟨level % 4, rfl, by omega⟩
  rw [ela]
  obtain ⟨a, ea⟩ : ∃ a, a = Lb.mk sa la := ⟨_, rfl⟩
  have ha : a.sm := by rw [ea]; exact ⟨fsa, fla.1, fla.2⟩
  refine hp.alloc (cs := (Lb.mk 0 0).cells) (e := 2) rfl rfl rfl rfl rfl ?_
  clear hp
  intro p5 s hp _
  conv => whnf
  refine hp.storeW (vs := (Lb.mk sa la).cells) rfl (by repeat (first | exact Rm.here | apply Rm.there)) (by first | exact C2_same _ _ _ _ | exact C4_same _ _ _ _ _ _ _ _ | exact Dc_same _ _ | rfl) rfl rfl rfl ?_
  clear hp
  intro s hp _
  conv => whnf
  rw [← ea] at hp
  clear ea esa fsa ela fla
  refine Sm.live [5] ?_
  conv => whnf
  have hpl := lprint_len a
  refine Sm.seqW ?_
  conv => whnf
  (refine hp.loadA (by repeat (first | exact Has.here | apply Has.there | (apply Has.swap; repeat (first | exact HasR.here | apply HasR.there)))) rfl (by rfl) rfl rfl ?_; conv => whnf)
  refine hp.call (lprint_spec hp.wf (a := a) ha.ok) ?_
  clear hp
  rintro _ s rfl hp _
  conv => whnf
  refine hp.call (lread_spec hp.wf (hg.keep hp.fr) (lprintF a) (by omega)) ?_
  clear hp
  rw [lread_print ha]
  rintro _ s rfl hp _
  conv => whnf
  refine hp.alloc (cs := (Lb.mk 0 0).cells) (e := 2) rfl rfl rfl rfl rfl ?_
  clear hp
  intro p6 s hp _
  conv => whnf
  refine hp.storeW (vs := a.cells) rfl (by repeat (first | exact Rm.here | apply Rm.there)) (by first | exact C2_same _ _ _ _ | exact C4_same _ _ _ _ _ _ _ _ | exact Dc_same _ _ | rfl) rfl rfl rfl ?_
  clear hp
  intro s hp _
  conv => whnf
  refine Sm.live [5, 6, 7] ?_
  conv => whnf
  refine Sm.seqW ?_
  conv => whnf
  refine hp.load (v := .int .i64 a.lev) (by repeat (first | exact Has.here | apply Has.there | (apply Has.swap; repeat (first | exact HasR.here | apply HasR.there)))) (by rfl) rfl rfl rfl ?_
  conv => whnf
  refine hp.alloc (cs := (Lb.mk 0 0).cells) (e := 2) rfl rfl rfl rfl rfl ?_
  clear hp
  intro p8 s hp _
  conv => whnf
  refine hp.storeW (vs := (Lb.mk 0 a.lev).cells) rfl (by repeat (first | exact Rm.here | apply Rm.there)) (by first | exact C2_same _ _ _ _ | exact C4_same _ _ _ _ _ _ _ _ | exact Dc_same _ _ | rfl) rfl rfl rfl ?_
  clear hp
  intro s hp _
  conv => whnf
  refine Sm.live [5, 6, 7, 8] ?_
  conv => whnf
  refine Sm.seq ?_
  refine Sm.seqW ?_
  conv => whnf
  refine hp.loadA (l := a.cells) (by repeat (first | exact Has.here | apply Has.there | (apply Has.swap; repeat (first | exact HasR.here | apply HasR.there)))) rfl (by rfl) rfl rfl ?_
  conv => whnf
  refine hp.callO (members_spec hp.wf ha.ok) ?_
  clear hp
  intro w κw s hp _
  obtain ⟨aw, cw, rfl⟩ := (hp.slF (κ := κw) (v := w) (by repeat (first | exact Rm.here | apply Rm.there))).shape
  conv => whnf
  refine Sm.live [5, 6, 7, 8, 27, 28, 29] ?_
  conv => whnf
  refine Sm.block ?_
  refine Sm.loop ?_
  refine Lp.ofS (α := Nat) (fun i => [(5, .pointer (some ⟨p5, 0, none⟩)), (6, .pointer (some ⟨p6, 0, none⟩)), (7, .int .i64 0), (8, .pointer (some ⟨p8, 0, none⟩)), (27, .slice aw (memsF a.set).length cw), (28, .int .i64 (((memsF a.set).length : Nat) : Int)), (29, .int .i64 (i : Int))])
    (fun i s' => i ≤ (memsF a.set).length ∧ Hp (fun _ => False) s0 [] [blkA p8 p8 (Lb.mk (orM ((memsF a.set).take i)) a.lev).cells 2, blkA p6 p6 a.cells 2, blkA p5 p5 a.cells 2, onA κw (.slice aw (memsF a.set).length cw) 1 (memsF a.set).length (natI (memsF a.set))] s') (fun i => (memsF a.set).length - i) ?_ 0 (subK_ok (by refine ⟨rfl, rfl, rfl, rfl, rfl, rfl, rfl, trivial⟩)) ⟨Nat.zero_le _, hp.pik (by repeat (first | exact Pik.nil | exact Pik.refl _ | exact Rm.here | apply Rm.there | apply Pik.cons | apply Pik.skip))⟩
  clear hp
  rintro i s ⟨hi, hp⟩
  have hml := memsF_len a.set
  refine Sm.seqW ?_
  conv => whnf
  refine Sm.live [5, 6, 7, 8, 27, 28, 29, 30] ?_
  conv => whnf
  refine Sm.seq ?_
  refine Sm.ofW ?_
  conv => whnf
  refine Br.mk (fun hq => ?_) (fun hq => ?_)
  · have hq : i < (memsF a.set).length := by have : (i : Int) < ((memsF a.set).length : Int) := of_decide_eq_true hq; omega
    obtain ⟨p, y, e1, e2, e3, _, rfl⟩ := index_sl IL Tryd.underlying3 rfl (hp.slF (κ := κw) (v := .slice aw (memsF a.set).length cw) (by repeat (first | exact Rm.here | apply Rm.there))) .i64 hq
    have e4 : y = .int .i64 (((memsF a.set)[i] : Nat) : Int) := by
      unfold natI at e2
      rw [List.getElem?_map, List.getElem?_eq_getElem hq] at e2
      injection e2 with e2; exact e2.symm
    subst e4
    have hmem := List.getElem_mem hq
    have hk8 : (memsF a.set)[i] < 8 := memsF_lt hmem
    have e5 := orM_succ (memsF a.set) hq
    have e6 : orM ((memsF a.set).take i) < 256 := orM_lt fun k hk => memsF_lt (List.mem_of_mem_take hk)
    have e7 := of_below ha hmem
    generalize (memsF a.set)[i] = k at *
    have hof : ∀ l : Int, 0 ≤ l → l ≤ 3 → (ofF k l).ok := fun l h0 h3 => by
      rw [ofF_sm hk8 h0 h3]
      exact ⟨Nat.lt_of_lt_of_le (Nat.pow_lt_pow_right (by decide) (show k < 8 from hk8)) (by decide), by unfold inR; show -9223372036854775808 ≤ l ∧ l < _; omega⟩
    conv => whnf
    refine Sm.seq ?_
    refine Sm.block ?_
    refine Sm.seqW ?_
    conv => whnf
    refine Om.of _ (e1) ?_
    conv => whnf
    refine Om.of _ (e3) ?_
    conv => whnf
    refine Sm.live [5, 6, 7, 8, 10, 27, 28, 29] ?_
    conv => whnf
    refine Sm.seqW ?_
    conv => whnf
    refine ⟨[0, 0, 2, 7, 15], by decide +kernel, by decide +kernel, ?_⟩
    conv => whnf
    refine hp.loadA (l := (Lb.mk (orM ((memsF a.set).take i)) a.lev).cells) (by repeat (first | exact Has.here | apply Has.there | (apply Has.swap; repeat (first | exact HasR.here | apply HasR.there)))) rfl (by rfl) rfl rfl ?_
    conv => whnf
    refine hp.rst.call (of_spec hp.rst.wf k 0) ?_
    rintro _ s1 rfl h1 k1
    conv => whnf
    refine hp.dkN h1 k1 ?_
    clear hp h1 k1
    intro s hp
    conv => whnf
    refine hp.rst.call (join_spec hp.rst.wf (a := ⟨orM ((memsF a.set).take i), a.lev⟩) ⟨by show orM _ < _; omega, ha.ok.2⟩ (hof 0 (by decide) (by decide))) ?_
    rintro _ s1 rfl h1 k1
    conv => whnf
    refine hp.dkN h1 k1 ?_
    clear hp h1 k1
    intro s hp
    conv => whnf
    rw [join_of ha hk8, ← e5]
    refine hp.rst.storeW (vs := (Lb.mk (orM ((memsF a.set).take (i + 1))) a.lev).cells) rfl (by repeat (first | exact Rm.here | apply Rm.there)) (by first | exact C2_same _ _ _ _ | exact C4_same _ _ _ _ _ _ _ _ | exact Dc_same _ _ | rfl) rfl rfl rfl ?_
    intro s1 h1 l1
    conv => whnf
    refine hp.dkW h1 l1 ?_
    clear hp h1 l1
    intro s hp
    conv => whnf
    refine Sm.live [5, 6, 7, 8, 10, 27, 28, 29] ?_
    conv => whnf
    refine Sm.seqW ?_
    conv => whnf
    refine ⟨[0, 0, 2, 7, 0, 31, 63], by decide +kernel, by decide +kernel, ?_⟩
    conv => whnf
    refine hp.load (v := .int .i64 a.lev) (by repeat (first | exact Has.here | apply Has.there | (apply Has.swap; repeat (first | exact HasR.here | apply HasR.there)))) (by rfl) rfl rfl rfl ?_
    conv => whnf
    refine hp.rst.call (of_spec hp.rst.wf k a.lev) ?_
    rintro _ s1 rfl h1 k1
    conv => whnf
    refine hp.dkN h1 k1 ?_
    clear hp h1 k1
    intro s hp
    conv => whnf
    refine hp.loadA (l := a.cells) (by repeat (first | exact Has.here | apply Has.there | (apply Has.swap; repeat (first | exact HasR.here | apply HasR.there)))) rfl (by rfl) rfl rfl ?_
    conv => whnf
    refine hp.rst.call (below_spec hp.rst.wf (a := ofF k a.lev) (hof a.lev ha.lo ha.hi) ha.ok) ?_
    rintro _ s1 rfl h1 k1
    conv => whnf
    refine hp.dkN h1 k1 ?_
    clear hp h1 k1
    intro s hp
    conv => whnf
    rw [e7]
    refine Sm.live [5, 6, 7, 8, 27, 28, 29, 43] ?_
    conv => whnf
    refine Sm.ofW ?_
    conv => whnf
    repeat (first | (refine Br.yes (by first | with_reducible rfl | with_reducible exact beq_self_eq_true _ | rfl) ?_; conv => whnf) | (refine Br.no (by first | with_reducible rfl | with_reducible exact bne_self_eq_false _ | rfl) ?_; conv => whnf))
    refine Sm.ofW ?_
    conv => whnf
    exact ⟨i + 1, by (show (memsF a.set).length - (i + 1) < (memsF a.set).length - i); omega, subK_ok (by refine ⟨rfl, rfl, rfl, rfl, rfl, rfl, congrArg (fun x => some (Value.int .i64 x)) (show IntKind.i64.wrap ((i : Int) + 1) = ((i + 1 : Nat) : Int) by rw [wi64 (by omega) (by omega)]; omega), trivial⟩), by omega, hp.pik (by repeat (first | exact Pik.nil | exact Pik.refl _ | exact Rm.here | apply Rm.there | apply Pik.cons | apply Pik.skip))⟩
  · have hq : i = (memsF a.set).length := by have := of_decide_eq_false hq; omega
    subst hq
    have e8 : Lb.mk (orM (memsF a.set)) a.lev = a := by rw [orM_mems _ ha.set]
    rw [List.take_length, e8] at hp
    have H1 : lbE a a = true := lbE_iff.2 rfl
    conv => whnf
    refine Sm.seqW ?_
    conv => whnf
    refine hp.call (lknown_spec hp.wf (hg.keep hp.fr)) ?_
    clear hp
    rintro _ s rfl hp _
    conv => whnf
    repeat (first
      | (refine Br.yes (by first | with_reducible rfl | with_reducible assumption | rfl) ?_; conv => whnf)
      | (refine Br.no (by first | with_reducible rfl | with_reducible assumption | rfl) ?_; conv => whnf)
      | (refine hp.loadA (by repeat (first | exact Has.here | apply Has.there | (apply Has.swap; repeat (first | exact HasR.here | apply HasR.there)))) rfl (by rfl) rfl rfl ?_; conv => whnf)
      | (refine Om.of _ (lb_eq a a _) ?_; conv => whnf))
    refine Sm.ofW ?_
    conv => whnf
    exact ⟨congrArg Value.bool (by first | rfl | exact H1)⟩
end Go.Ev
end

/- LabelSets walked. No condition. -/
noncomputable section
namespace Go.Ev
open Go.Proofs
variable [Lk]
set_option linter.unusedSectionVars false
set_option linter.unusedVariables false
set_option maxRecDepth 100000

theorem filt_len (p q : Nat → Bool) : ∀ l : List Nat, (l.filter fun k => p k && q k).length + (l.filter fun k => p k || q k).length = (l.filter p).length + (l.filter q).length
  | [] => rfl
  | k :: l => by
    have := filt_len p q l
    simp only [List.filter_cons]
    cases p k <;> cases q k <;> simp <;> omega
theorem mems_len (a b : Lb) : (memsF (meetF a b).set).length + (memsF (joinF a b).set).length = (memsF a.set).length + (memsF b.set).length := by
  rw [mems_eq, mems_eq, mems_eq, mems_eq]
  have := filt_len (fun k => a.set.testBit k) (fun k => b.set.testBit k) (List.range 8)
  rw [← this]
  congr 2
  · exact List.filter_congr fun k _ => meet_bit a b k
  · exact List.filter_congr fun k _ => join_bit a b k
def subL (l m : List Nat) : Bool := l.all fun k => decide (k ∈ m)
theorem subL_iff {l m : List Nat} : subL l m = true ↔ ∀ k ∈ l, k ∈ m := by
  unfold subL
  rw [List.all_eq_true]
  exact ⟨fun h k hk => of_decide_eq_true (h k hk), fun h k hk => decide_eq_true (h k hk)⟩
theorem below_mems {a b : Lb} (ha : a.sm) (hb : b.sm) : belowF a b = (subL (memsF a.set) (memsF b.set) && decide (a.lev ≤ b.lev)) := by
  rw [Bool.eq_iff_iff, belowF_iff ha hb, Bool.and_eq_true, subL_iff, decide_eq_true_iff]
  refine and_congr_left fun _ => ⟨fun h k hk => ?_, fun h k hk => ?_⟩
  · rw [mems_eq, List.mem_filter] at hk ⊢
    exact ⟨hk.1, h k hk.2⟩
  · have h8 : k < 8 := by
      rcases Nat.lt_or_ge k 8 with g | g
      · exact g
      · have : a.set.testBit k = false := Nat.testBit_lt_two_pow (Nat.lt_of_lt_of_le ha.set (show 2 ^ 8 ≤ 2 ^ k from Nat.pow_le_pow_right (by decide) g))
        rw [this] at hk; cases hk
    have := h k (by rw [mems_eq, List.mem_filter]; exact ⟨List.mem_range.2 h8, hk⟩)
    rw [mems_eq, List.mem_filter] at this
    exact this.2
theorem mem_take_succ {l : List Nat} {i k : Nat} (h : i < l.length) : k ∈ l.take (i + 1) ↔ k ∈ l.take i ∨ k = l[i] := by
  rw [List.take_add_one, List.getElem?_eq_getElem h, Option.toList_some, List.mem_append, List.mem_singleton]
theorem natI_at {l : List Nat} {i : Nat} {y : Value} (h : i < l.length) (e : (natI l)[i]? = some y) : y = .int .i64 ((l[i] : Nat) : Int) := by
  unfold natI at e
  rw [List.getElem?_map, List.getElem?_eq_getElem h] at e
  injection e with e; exact e.symm
theorem labelSets_walk {s0 : St} (wf : WF s0) (hg : Gs s0) {n level m other : Int} (hn : inR n) (hl : inR level) (hm : inR m) (ho : inR other) :
    Cw Tryd.prog 8 [.int .i64 n, .int .i64 level, .int .i64 m, .int .i64 other] s0 fun r _ => r = .bool true := by
  have hp : Hp (fun _ => False) s0 [] [] s0 := Hp.start _ wf _ (by simp)
  refine Cw.enterS Tryd.func8 rfl rfl ?_
  refine Sm.seqW ?_
  conv => whnf
  refine Sm.live [0, 1, 2, 3] ?_
  conv => whnf
  refine Sm.seqW ?_
  conv => whnf
  refine (pick_spec _ hn (m := 256) (by decide) (by decide)).mono ?_
  rintro _ s1 ⟨h1, rfl⟩
  obtain rfl := h1.symm
  conv => whnf
  obtain ⟨sa, esa, fsa⟩ : ∃ sa : Nat, n % 256 = (sa : Int) ∧ sa < 256 := ⟨(n % 256).toNat, by omega, by omega⟩
  rw [esa, show IntKind.u64.wrap (sa : Int) = (sa : Int) by rw [wrap_u64]; omega]
  refine (pick_spec _ hl (m := 4) (by decide) (by decide)).mono ?_
  rintro _ s1 ⟨h1, rfl⟩
  obtain rfl := h1.symm
  conv => whnf
  obtain ⟨la, ela, fla⟩ : ∃ la : Int, level % 4 = la ∧ (0 ≤ la ∧ la ≤ 3) := ⟨level % 4, rfl, by omega⟩
  rw [ela]
  obtain ⟨a, ea⟩ : ∃ a, a = Lb.mk sa la := ⟨_, rfl⟩
  have ha : a.sm := by rw [ea]; exact ⟨fsa, fla.1, fla.2⟩
  refine hp.alloc (cs := (Lb.mk 0 0).cells) (e := 2) rfl rfl rfl rfl rfl ?_
  clear hp
  intro p9 s hp _
  conv => whnf
  refine hp.storeW (vs := (Lb.mk sa la).cells) rfl (by repeat (first | exact Rm.here | apply Rm.there)) (by first | exact C2_same _ _ _ _ | exact C4_same _ _ _ _ _ _ _ _ | exact Dc_same _ _ | rfl) rfl rfl rfl ?_
  clear hp
  intro s hp _
  conv => whnf
  rw [← ea] at hp
  clear ea esa fsa ela fla
  refine Sm.live [2, 3, 9] ?_
  conv => whnf
  refine Sm.seqW ?_
  conv => whnf
  refine (pick_spec _ hm (m := 256) (by decide) (by decide)).mono ?_
  rintro _ s1 ⟨h1, rfl⟩
  obtain rfl := h1.symm
  conv => whnf
  obtain ⟨sb, esb, fsb⟩ : ∃ sb : Nat, m % 256 = (sb : Int) ∧ sb < 256 := ⟨(m % 256).toNat, by omega, by omega⟩
  rw [esb, show IntKind.u64.wrap (sb : Int) = (sb : Int) by rw [wrap_u64]; omega]
  refine (pick_spec _ ho (m := 4) (by decide) (by decide)).mono ?_
  rintro _ s1 ⟨h1, rfl⟩
  obtain rfl := h1.symm
  conv => whnf
  obtain ⟨lb, elb, flb⟩ : ∃ lb : Int, other % 4 = lb ∧ (0 ≤ lb ∧ lb ≤ 3) := ⟨other % 4, rfl, by omega⟩
  rw [elb]
  obtain ⟨b, eb⟩ : ∃ b, b = Lb.mk sb lb := ⟨_, rfl⟩
  have hb : b.sm := by rw [eb]; exact ⟨fsb, flb.1, flb.2⟩
  refine hp.alloc (cs := (Lb.mk 0 0).cells) (e := 2) rfl rfl rfl rfl rfl ?_
  clear hp
  intro p10 s hp _
  conv => whnf
  refine hp.storeW (vs := (Lb.mk sb lb).cells) rfl (by repeat (first | exact Rm.here | apply Rm.there)) (by first | exact C2_same _ _ _ _ | exact C4_same _ _ _ _ _ _ _ _ | exact Dc_same _ _ | rfl) rfl rfl rfl ?_
  clear hp
  intro s hp _
  conv => whnf
  rw [← eb] at hp
  clear eb esb fsb elb flb
  refine Sm.live [9, 10] ?_
  conv => whnf
  have hma := memsF_len a.set
  have hmb := memsF_len b.set
  refine Sm.seqW ?_
  conv => whnf
  refine Sm.live [9, 10, 11] ?_
  conv => whnf
  refine Sm.seq ?_
  refine Sm.seqW ?_
  conv => whnf
  refine hp.loadA (l := a.cells) (by repeat (first | exact Has.here | apply Has.there | (apply Has.swap; repeat (first | exact HasR.here | apply HasR.there)))) rfl (by rfl) rfl rfl ?_
  conv => whnf
  refine hp.callO (members_spec hp.wf ha.ok) ?_
  clear hp
  intro w κw s hp _
  obtain ⟨aw, cw, rfl⟩ := (hp.slF (κ := κw) (v := w) (by repeat (first | exact Rm.here | apply Rm.there))).shape
  conv => whnf
  refine Sm.live [9, 10, 11, 32, 33, 34] ?_
  conv => whnf
  refine Sm.block ?_
  refine Sm.loop ?_
  refine Lp.ofS (α := Nat) (fun i => [(9, .pointer (some ⟨p9, 0, none⟩)), (10, .pointer (some ⟨p10, 0, none⟩)), (11, .bool (subL ((memsF a.set).take i) (memsF b.set))), (32, .slice aw (memsF a.set).length cw), (33, .int .i64 (((memsF a.set).length : Nat) : Int)), (34, .int .i64 (i : Int))])
    (fun i s' => i ≤ (memsF a.set).length ∧ Hp (fun _ => False) s0 [] [blkA p9 p9 a.cells 2, blkA p10 p10 b.cells 2, onA κw (.slice aw (memsF a.set).length cw) 1 (memsF a.set).length (natI (memsF a.set))] s') (fun i => (memsF a.set).length - i) ?_ 0 (subK_ok (by refine ⟨rfl, rfl, congrArg (fun x => some (Value.bool x)) (show true = subL ((memsF a.set).take 0) (memsF b.set) from rfl), rfl, rfl, rfl, trivial⟩)) ⟨Nat.zero_le _, hp.pik (by repeat (first | exact Pik.nil | exact Pik.refl _ | exact Rm.here | apply Rm.there | apply Pik.cons | apply Pik.skip))⟩
  clear hp
  rintro i s ⟨hi, hp⟩
  refine Sm.seqW ?_
  conv => whnf
  refine Sm.live [9, 10, 11, 32, 33, 34, 35] ?_
  conv => whnf
  refine Sm.seq ?_
  refine Sm.ofW ?_
  conv => whnf
  refine Br.mk (fun hq => ?_) (fun hq => ?_)
  · have hq : i < (memsF a.set).length := by have : (i : Int) < ((memsF a.set).length : Int) := of_decide_eq_true hq; omega
    obtain ⟨p, y, e1, e2, e3, _, rfl⟩ := index_sl IL Tryd.underlying3 rfl (hp.slF (κ := κw) (v := .slice aw (memsF a.set).length cw) (by repeat (first | exact Rm.here | apply Rm.there))) .i64 hq
    obtain rfl := natI_at hq e2
    have hstep : ∀ x : Nat, (∀ k ∈ (memsF a.set).take (i + 1), k ∈ memsF b.set) ↔ (∀ k ∈ (memsF a.set).take i, k ∈ memsF b.set) ∧ (memsF a.set)[i] ∈ memsF b.set := fun _ => by
      constructor
      · exact fun h => ⟨fun k hk => h k ((mem_take_succ hq).2 (.inl hk)), h _ ((mem_take_succ hq).2 (.inr rfl))⟩
      · rintro ⟨h1, h2⟩ k hk
        rcases (mem_take_succ hq).1 hk with g | rfl
        · exact h1 k g
        · exact h2
    generalize (memsF a.set)[i] = k at *
    conv => whnf
    refine Sm.seq (Sm.mono (Q := fun e L' s' => e = .normal ∧ Hp (fun _ => False) s0 [] [blkA p9 p9 a.cells 2, blkA p10 p10 b.cells 2, onA κw (.slice aw (memsF a.set).length cw) 1 (memsF a.set).length (natI (memsF a.set))] s' ∧ Sub [(9, .pointer (some ⟨p9, 0, none⟩)), (10, .pointer (some ⟨p10, 0, none⟩)), (11, .bool (subL ((memsF a.set).take (i + 1)) (memsF b.set))), (32, .slice aw (memsF a.set).length cw), (33, .int .i64 (((memsF a.set).length : Nat) : Int)), (34, .int .i64 (i : Int))] L') ?_ ?_)
    · refine Sm.block ?_
      refine Sm.seqW ?_
      conv => whnf
      refine Om.of _ (e1) ?_
      conv => whnf
      refine Om.of _ (e3) ?_
      conv => whnf
      refine Sm.live [9, 10, 11, 13, 32, 33, 34] ?_
      conv => whnf
      refine Sm.seqW ?_
      conv => whnf
      refine Sm.live [9, 10, 11, 13, 14, 32, 33, 34] ?_
      conv => whnf
      refine Sm.seq ?_
      refine Sm.seqW ?_
      conv => whnf
      refine hp.loadA (l := b.cells) (by repeat (first | exact Has.here | apply Has.there | (apply Has.swap; repeat (first | exact HasR.here | apply HasR.there)))) rfl (by rfl) rfl rfl ?_
      conv => whnf
      refine hp.callO (members_spec hp.wf hb.ok) ?_
      clear hp
      intro w2 κ2 s hp _
      obtain ⟨a2, c2, rfl⟩ := (hp.slF (κ := κ2) (v := w2) (by repeat (first | exact Rm.here | apply Rm.there))).shape
      conv => whnf
      refine Sm.live [9, 10, 11, 13, 14, 32, 33, 34, 39, 40, 41] ?_
      conv => whnf
      refine Sm.block ?_
      refine Sm.loop ?_
      refine Lp.ofS (α := Nat) (fun j => [(9, .pointer (some ⟨p9, 0, none⟩)), (10, .pointer (some ⟨p10, 0, none⟩)), (11, .bool (subL ((memsF a.set).take i) (memsF b.set))), (32, .slice aw (memsF a.set).length cw), (33, .int .i64 (((memsF a.set).length : Nat) : Int)), (34, .int .i64 (i : Int)), (13, .int .i64 (k : Int)), (14, .bool (decide (k ∈ (memsF b.set).take j))), (39, .slice a2 (memsF b.set).length c2), (40, .int .i64 (((memsF b.set).length : Nat) : Int)), (41, .int .i64 (j : Int))])
        (fun j s' => j ≤ (memsF b.set).length ∧ Hp (fun _ => False) s0 [] [onA κ2 (.slice a2 (memsF b.set).length c2) 1 (memsF b.set).length (natI (memsF b.set)), blkA p9 p9 a.cells 2, blkA p10 p10 b.cells 2, onA κw (.slice aw (memsF a.set).length cw) 1 (memsF a.set).length (natI (memsF a.set))] s') (fun j => (memsF b.set).length - j) ?_ 0 (subK_ok (by refine ⟨rfl, rfl, rfl, rfl, rfl, rfl, rfl, congrArg (fun x => some (Value.bool x)) (show false = decide (k ∈ (memsF b.set).take 0) by simp), rfl, rfl, rfl, trivial⟩)) ⟨Nat.zero_le _, hp.pik (by repeat (first | exact Pik.nil | exact Pik.refl _ | exact Rm.here | apply Rm.there | apply Pik.cons | apply Pik.skip))⟩
      clear hp
      rintro j s ⟨hj, hp⟩
      refine Sm.seqW ?_
      conv => whnf
      refine Sm.live [9, 10, 11, 13, 14, 32, 33, 34, 39, 40, 41, 42] ?_
      conv => whnf
      refine Sm.seq ?_
      refine Sm.ofW ?_
      conv => whnf
      refine Br.mk (fun hr => ?_) (fun hr => ?_)
      · have hr : j < (memsF b.set).length := by have : (j : Int) < ((memsF b.set).length : Int) := of_decide_eq_true hr; omega
        obtain ⟨p', y', e1', e2', e3', _, rfl⟩ := index_sl IL Tryd.underlying3 rfl (hp.slF (κ := κ2) (v := .slice a2 (memsF b.set).length c2) (by repeat (first | exact Rm.here | apply Rm.there))) .i64 hr
        obtain rfl := natI_at hr e2'
        have hs2 : k ∈ (memsF b.set).take (j + 1) ↔ k ∈ (memsF b.set).take j ∨ k = (memsF b.set)[j] := mem_take_succ hr
        generalize (memsF b.set)[j] = k2 at *
        conv => whnf
        refine Sm.seq (Sm.mono (Q := fun e L' s' => e = .normal ∧ s' = s ∧ Sub [(9, .pointer (some ⟨p9, 0, none⟩)), (10, .pointer (some ⟨p10, 0, none⟩)), (11, .bool (subL ((memsF a.set).take i) (memsF b.set))), (32, .slice aw (memsF a.set).length cw), (33, .int .i64 (((memsF a.set).length : Nat) : Int)), (34, .int .i64 (i : Int)), (13, .int .i64 (k : Int)), (14, .bool (decide (k ∈ (memsF b.set).take (j + 1)))), (39, .slice a2 (memsF b.set).length c2), (40, .int .i64 (((memsF b.set).length : Nat) : Int)), (41, .int .i64 (j : Int))] L') ?_ ?_)
        · refine Sm.block ?_
          refine Sm.seqW ?_
          conv => whnf
          refine Om.of _ (e1') ?_
          conv => whnf
          refine Om.of _ (e3') ?_
          conv => whnf
          refine Sm.live [9, 10, 11, 13, 14, 16, 32, 33, 34, 39, 40, 41] ?_
          conv => whnf
          refine Sm.ofW ?_
          conv => whnf
          by_cases q : k ∈ (memsF b.set).take j
          · have q1 : decide (k ∈ (memsF b.set).take j) = true := decide_eq_true q
            have q2 : decide (k ∈ (memsF b.set).take (j + 1)) = true := decide_eq_true (hs2.2 (.inl q))
            rw [q2]
            repeat (first | (refine Br.yes q1 ?_; conv => whnf) | (first | (refine Br.yes (by first | with_reducible rfl | with_reducible exact beq_self_eq_true _ | rfl) ?_; conv => whnf) | (refine Br.no (by first | with_reducible rfl | with_reducible exact bne_self_eq_false _ | rfl) ?_; conv => whnf)))
            exact ⟨rfl, rfl, subK_ok ⟨rfl, rfl, rfl, rfl, rfl, rfl, rfl, rfl, rfl, rfl, rfl, trivial⟩⟩
          · have q1 : decide (k ∈ (memsF b.set).take j) = false := decide_eq_false q
            have q2 : ((k2 : Int) == (k : Int)) = decide (k ∈ (memsF b.set).take (j + 1)) := by
              rw [Bool.eq_iff_iff, beq_iff_eq, decide_eq_true_iff, hs2]
              constructor
              · intro h; exact .inr (by omega)
              · rintro (h | h)
                · exact absurd h q
                · omega
            rw [← q2]
            repeat (first | (refine Br.no q1 ?_; conv => whnf) | (first | (refine Br.yes (by first | with_reducible rfl | with_reducible exact beq_self_eq_true _ | rfl) ?_; conv => whnf) | (refine Br.no (by first | with_reducible rfl | with_reducible exact bne_self_eq_false _ | rfl) ?_; conv => whnf)))
            exact ⟨rfl, rfl, subK_ok ⟨rfl, rfl, rfl, rfl, rfl, rfl, rfl, rfl, rfl, rfl, rfl, trivial⟩⟩
        · rintro e L' s' ⟨rfl, rfl, hs⟩
          refine Sm.weak _ hs ?_
          clear hs
          refine Sm.ofW ?_
          conv => whnf
          exact ⟨j + 1, by (show (memsF b.set).length - (j + 1) < (memsF b.set).length - j); omega, subK_ok (by refine ⟨rfl, rfl, rfl, rfl, rfl, rfl, rfl, rfl, rfl, rfl, congrArg (fun x => some (Value.int .i64 x)) (show IntKind.i64.wrap ((j : Int) + 1) = ((j + 1 : Nat) : Int) by rw [wi64 (by omega) (by omega)]; omega), trivial⟩), by omega, hp⟩
      · have hr : j = (memsF b.set).length := by have := of_decide_eq_false hr; omega
        subst hr
        rw [List.take_length]
        conv => whnf
        have hstep := hstep 0
        by_cases q : ∀ k ∈ (memsF a.set).take i, k ∈ memsF b.set
        · have q1 : subL ((memsF a.set).take i) (memsF b.set) = true := subL_iff.2 q
          have q2 : decide (k ∈ memsF b.set) = subL ((memsF a.set).take (i + 1)) (memsF b.set) := by
            rw [Bool.eq_iff_iff, decide_eq_true_iff, subL_iff, hstep]
            exact ⟨fun h => ⟨q, h⟩, fun h => h.2⟩
          rw [← q2]
          refine Sm.ofW ?_
          conv => whnf
          repeat (first | (refine Br.yes q1 ?_; conv => whnf) | (first | (refine Br.yes (by first | with_reducible rfl | with_reducible exact beq_self_eq_true _ | rfl) ?_; conv => whnf) | (refine Br.no (by first | with_reducible rfl | with_reducible exact bne_self_eq_false _ | rfl) ?_; conv => whnf)))
          exact ⟨rfl, hp.pik (by repeat (first | exact Pik.nil | exact Pik.refl _ | exact Rm.here | apply Rm.there | apply Pik.cons | apply Pik.skip)), subK_ok ⟨rfl, rfl, rfl, rfl, rfl, rfl, trivial⟩⟩
        · have q1 : subL ((memsF a.set).take i) (memsF b.set) = false := Bool.eq_false_iff.2 (fun h => q (subL_iff.1 h))
          have q2 : subL ((memsF a.set).take (i + 1)) (memsF b.set) = false := Bool.eq_false_iff.2 (fun h => q (hstep.1 (subL_iff.1 h)).1)
          rw [q2]
          refine Sm.ofW ?_
          conv => whnf
          repeat (first | (refine Br.no q1 ?_; conv => whnf) | (first | (refine Br.yes (by first | with_reducible rfl | with_reducible exact beq_self_eq_true _ | rfl) ?_; conv => whnf) | (refine Br.no (by first | with_reducible rfl | with_reducible exact bne_self_eq_false _ | rfl) ?_; conv => whnf)))
          exact ⟨rfl, hp.pik (by repeat (first | exact Pik.nil | exact Pik.refl _ | exact Rm.here | apply Rm.there | apply Pik.cons | apply Pik.skip)), subK_ok ⟨rfl, rfl, rfl, rfl, rfl, rfl, trivial⟩⟩
    · clear hp
      rintro e L' s ⟨rfl, hp, hs⟩
      refine Sm.weak _ hs ?_
      clear hs
      refine Sm.ofW ?_
      conv => whnf
      exact ⟨i + 1, by (show (memsF a.set).length - (i + 1) < (memsF a.set).length - i); omega, subK_ok (by refine ⟨rfl, rfl, rfl, rfl, rfl, congrArg (fun x => some (Value.int .i64 x)) (show IntKind.i64.wrap ((i : Int) + 1) = ((i + 1 : Nat) : Int) by rw [wi64 (by omega) (by omega)]; omega), trivial⟩), by omega, hp⟩
  · have hq : i = (memsF a.set).length := by have := of_decide_eq_false hq; omega
    subst hq
    have hbm := below_mems ha hb
    have hml := mems_len a b
    rw [List.take_length]
    obtain ⟨B, hB⟩ : ∃ B, B = subL (memsF a.set) (memsF b.set) := ⟨_, rfl⟩
    rw [← hB] at hbm ⊢
    conv => whnf
    refine Sm.seqW ?_
    conv => whnf
    (refine hp.loadA (by repeat (first | exact Has.here | apply Has.there | (apply Has.swap; repeat (first | exact HasR.here | apply HasR.there)))) rfl (by rfl) rfl rfl ?_; conv => whnf)
    (refine hp.loadA (by repeat (first | exact Has.here | apply Has.there | (apply Has.swap; repeat (first | exact HasR.here | apply HasR.there)))) rfl (by rfl) rfl rfl ?_; conv => whnf)
    refine hp.call (meet_spec hp.wf (a := a) (b := b) ha.ok hb.ok) ?_
    clear hp
    rintro _ s rfl hp _
    conv => whnf
    refine hp.callO (members_spec hp.wf (meetF_sm ha hb).ok) ?_
    clear hp
    intro v1 κ1 s hp _
    conv => whnf
    obtain ⟨a3, c3, rfl⟩ := (hp.slF (κ := κ1) (v := v1) (by repeat (first | exact Rm.here | apply Rm.there))).shape
    refine Sm.live [9, 10, 11, 17] ?_
    conv => whnf
    refine Sm.seqW ?_
    conv => whnf
    (refine hp.loadA (by repeat (first | exact Has.here | apply Has.there | (apply Has.swap; repeat (first | exact HasR.here | apply HasR.there)))) rfl (by rfl) rfl rfl ?_; conv => whnf)
    (refine hp.loadA (by repeat (first | exact Has.here | apply Has.there | (apply Has.swap; repeat (first | exact HasR.here | apply HasR.there)))) rfl (by rfl) rfl rfl ?_; conv => whnf)
    refine hp.call (join_spec hp.wf (a := a) (b := b) ha.ok hb.ok) ?_
    clear hp
    rintro _ s rfl hp _
    conv => whnf
    refine hp.callO (members_spec hp.wf (joinF_sm ha hb).ok) ?_
    clear hp
    intro v2 κ2 s hp _
    conv => whnf
    obtain ⟨a4, c4, rfl⟩ := (hp.slF (κ := κ2) (v := v2) (by repeat (first | exact Rm.here | apply Rm.there))).shape
    refine Sm.live [9, 10, 11, 17, 18] ?_
    conv => whnf
    refine Sm.seqW ?_
    conv => whnf
    refine ⟨[0, 1, 3, 3, 15, 3, 63, 127, 255, 127, 639, 2047, 4095, 8191, 16383, 32767, 65535, 131071, 65535, 327679, 1048575, 65535, 2162687, 6356991, 65535, 23134207, 56688639, 132186111, 268435455, 536870911, 1073741823], by decide +kernel, by decide +kernel, ?_⟩
    conv => whnf
    have H7 : (IntKind.i64.wrap (((memsF (meetF a b).set).length : Int) + ((memsF (joinF a b).set).length : Int)) == IntKind.i64.wrap (((memsF a.set).length : Int) + ((memsF b.set).length : Int))) = true := by
      rw [beq_iff_eq]; congr 1; omega
    cases B with
    | true =>
      have H6 : (belowF a b == decide (a.lev ≤ b.lev)) = true := by rw [hbm]; simp
      repeat (first
        | (refine Br.yes (by first | with_reducible rfl | with_reducible assumption | rfl) ?_; conv => whnf)
        | (refine Br.no (by first | with_reducible rfl | with_reducible assumption | rfl) ?_; conv => whnf)
        | (refine hp.loadA (by repeat (first | exact Has.here | apply Has.there | (apply Has.swap; repeat (first | exact HasR.here | apply HasR.there)))) rfl (by rfl) rfl rfl ?_; conv => whnf)
        | (refine hp.load (by repeat (first | exact Has.here | apply Has.there | (apply Has.swap; repeat (first | exact HasR.here | apply HasR.there)))) (by rfl) rfl rfl rfl ?_; conv => whnf)
        | (refine hp.rst.call (lknown_spec hp.rst.wf (hg.keep hp.rst.fr)) ?_; rintro _ s1 rfl h1 k1; (conv => whnf); refine hp.dkN h1 k1 ?_; clear hp h1 k1; intro s hp; conv => whnf)
        | (refine hp.rst.call (below_spec hp.rst.wf (a := a) (b := b) ha.ok hb.ok) ?_; rintro _ s1 rfl h1 k1; (conv => whnf); refine hp.dkN h1 k1 ?_; clear hp h1 k1; intro s hp; conv => whnf)
        | (refine Om.of _ (lbool_eq Tryd.underlying4 _ _ _) ?_; conv => whnf)
        | (refine hp.rst.callO (members_spec hp.rst.wf ha.ok) ?_; intro v κ s1 h1 k1; obtain ⟨aa, cc, rfl⟩ := (h1.slF (κ := κ) (v := v) (by repeat (first | exact Rm.here | apply Rm.there))).shape; (conv => whnf); refine hp.dkN h1 k1 ?_; clear hp h1 k1; intro s hp; conv => whnf)
        | (refine hp.rst.callO (members_spec hp.rst.wf hb.ok) ?_; intro v κ s1 h1 k1; obtain ⟨aa, cc, rfl⟩ := (h1.slF (κ := κ) (v := v) (by repeat (first | exact Rm.here | apply Rm.there))).shape; (conv => whnf); refine hp.dkN h1 k1 ?_; clear hp h1 k1; intro s hp; conv => whnf))
      refine Sm.ofW ?_
      conv => whnf
      exact ⟨congrArg Value.bool (by first | rfl | exact H7)⟩
    | false =>
      have H6 : (belowF a b == false) = true := by rw [hbm]; simp
      repeat (first
        | (refine Br.yes (by first | with_reducible rfl | with_reducible assumption | rfl) ?_; conv => whnf)
        | (refine Br.no (by first | with_reducible rfl | with_reducible assumption | rfl) ?_; conv => whnf)
        | (refine hp.loadA (by repeat (first | exact Has.here | apply Has.there | (apply Has.swap; repeat (first | exact HasR.here | apply HasR.there)))) rfl (by rfl) rfl rfl ?_; conv => whnf)
        | (refine hp.load (by repeat (first | exact Has.here | apply Has.there | (apply Has.swap; repeat (first | exact HasR.here | apply HasR.there)))) (by rfl) rfl rfl rfl ?_; conv => whnf)
        | (refine hp.rst.call (lknown_spec hp.rst.wf (hg.keep hp.rst.fr)) ?_; rintro _ s1 rfl h1 k1; (conv => whnf); refine hp.dkN h1 k1 ?_; clear hp h1 k1; intro s hp; conv => whnf)
        | (refine hp.rst.call (below_spec hp.rst.wf (a := a) (b := b) ha.ok hb.ok) ?_; rintro _ s1 rfl h1 k1; (conv => whnf); refine hp.dkN h1 k1 ?_; clear hp h1 k1; intro s hp; conv => whnf)
        | (refine Om.of _ (lbool_eq Tryd.underlying4 _ _ _) ?_; conv => whnf)
        | (refine hp.rst.callO (members_spec hp.rst.wf ha.ok) ?_; intro v κ s1 h1 k1; obtain ⟨aa, cc, rfl⟩ := (h1.slF (κ := κ) (v := v) (by repeat (first | exact Rm.here | apply Rm.there))).shape; (conv => whnf); refine hp.dkN h1 k1 ?_; clear hp h1 k1; intro s hp; conv => whnf)
        | (refine hp.rst.callO (members_spec hp.rst.wf hb.ok) ?_; intro v κ s1 h1 k1; obtain ⟨aa, cc, rfl⟩ := (h1.slF (κ := κ) (v := v) (by repeat (first | exact Rm.here | apply Rm.there))).shape; (conv => whnf); refine hp.dkN h1 k1 ?_; clear hp h1 k1; intro s hp; conv => whnf))
      refine Sm.ofW ?_
      conv => whnf
      exact ⟨congrArg Value.bool (by first | rfl | exact H7)⟩
end Go.Ev
end

/- LabelKnown walked. No condition. -/
noncomputable section
namespace Go.Ev
open Go.Proofs
variable [Lk]
set_option linter.unusedSectionVars false
set_option linter.unusedVariables false
set_option maxRecDepth 100000

def kbC : List Value := [sv [], sv [49], sv [49, 58, 50, 48], sv [49, 58, 48, 48], sv [52, 58, 49], sv [49, 58, 56], sv [32, 49, 58], sv [49, 58, 48, 32], sv [120, 58]]
theorem kb_at {i : Nat} (h : i < 9) : ∃ l : List UInt8, evIndex Tryd.prog 55 (.agg kbC.toArray) (.int .i64 (i : Int)) = some (sv l) ∧ l.length ≤ 10 ∧ lreadF l = (⟨0, 0⟩, 2) := by
  match i, h with
  | 0, _ => exact ⟨_, rfl, by decide, by kernel_rfl⟩
  | 1, _ => exact ⟨_, rfl, by decide, by kernel_rfl⟩
  | 2, _ => exact ⟨_, rfl, by decide, by kernel_rfl⟩
  | 3, _ => exact ⟨_, rfl, by decide, by kernel_rfl⟩
  | 4, _ => exact ⟨_, rfl, by decide, by kernel_rfl⟩
  | 5, _ => exact ⟨_, rfl, by decide, by kernel_rfl⟩
  | 6, _ => exact ⟨_, rfl, by decide, by kernel_rfl⟩
  | 7, _ => exact ⟨_, rfl, by decide, by kernel_rfl⟩
  | 8, _ => exact ⟨_, rfl, by decide, by kernel_rfl⟩
theorem labelKnown_walk {s0 : St} (wf : WF s0) (hg : Gs s0) : Cw Tryd.prog 10 [] s0 fun r _ => r = .bool true := by
  have hp : Hp (fun _ => False) s0 [] [] s0 := Hp.start _ wf _ (by simp)
  refine Cw.enterS Tryd.func10 rfl rfl ?_
  refine Sm.seqW ?_
  conv => whnf
  refine Sm.seq ?_
  refine Sm.seqW ?_
  conv => whnf
  refine Sm.live [8, 9] ?_
  conv => whnf
  refine Sm.block ?_
  refine Sm.loop ?_
  refine Lp.ofS (α := Nat) (fun i => [(8, .agg kbC.toArray), (9, .int .i64 (i : Int))])
    (fun i s' => i ≤ 9 ∧ Hp (fun _ => False) s0 [] [] s') (fun i => 9 - i) ?_ 0 (subK_ok (by refine ⟨rfl, rfl, trivial⟩)) ⟨Nat.zero_le _, hp⟩
  clear hp
  rintro i s ⟨hi, hp⟩
  refine Sm.seqW ?_
  conv => whnf
  refine Sm.live [8, 9, 10] ?_
  conv => whnf
  refine Sm.seq ?_
  refine Sm.ofW ?_
  conv => whnf
  refine Br.mk (fun hq => ?_) (fun hq => ?_)
  · have hq : i < 9 := by have : (i : Int) < 9 := of_decide_eq_true hq; omega
    obtain ⟨l, e1, e2, e3⟩ := kb_at hq
    conv => whnf
    refine Sm.seq ?_
    refine Sm.block ?_
    refine Sm.seqW ?_
    conv => whnf
    refine Om.of _ (e1) ?_
    conv => whnf
    refine Sm.live [2, 8, 9] ?_
    conv => whnf
    refine Sm.seqW ?_
    conv => whnf
    refine hp.call (lread_spec hp.wf (hg.keep hp.fr) l (by omega)) ?_
    clear hp
    rw [e3]
    rintro _ s rfl hp _
    conv => whnf
    refine hp.alloc (cs := (Lb.mk 0 0).cells) (e := 2) rfl rfl rfl rfl rfl ?_
    clear hp
    intro p3 s hp _
    conv => whnf
    refine hp.storeW (vs := (Lb.mk 0 0).cells) rfl (by repeat (first | exact Rm.here | apply Rm.there)) (by first | exact C2_same _ _ _ _ | exact C4_same _ _ _ _ _ _ _ _ | exact Dc_same _ _ | rfl) rfl rfl rfl ?_
    clear hp
    intro s hp _
    conv => whnf
    refine Sm.live [4, 8, 9] ?_
    conv => whnf
    refine Sm.ofW ?_
    conv => whnf
    repeat (first | (refine Br.yes (by first | with_reducible rfl | with_reducible exact beq_self_eq_true _ | rfl) ?_; conv => whnf) | (refine Br.no (by first | with_reducible rfl | with_reducible exact bne_self_eq_false _ | rfl) ?_; conv => whnf))
    refine Sm.ofW ?_
    conv => whnf
    exact ⟨i + 1, by (show 9 - (i + 1) < 9 - i); omega, subK_ok (by refine ⟨rfl, congrArg (fun x => some (Value.int .i64 x)) (show IntKind.i64.wrap ((i : Int) + 1) = ((i + 1 : Nat) : Int) by rw [wi64 (by omega) (by omega)]; omega), trivial⟩), by omega, hp.pik (by repeat (first | exact Pik.nil | exact Pik.refl _ | exact Rm.here | apply Rm.there | apply Pik.cons | apply Pik.skip))⟩
  · conv => whnf
    refine Sm.seqW ?_
    conv => whnf
    refine hp.alloc (cs := (Lb.mk 0 0).cells) (e := 2) rfl rfl rfl rfl rfl ?_
    clear hp
    intro p5 s hp _
    conv => whnf
    refine hp.storeW (vs := (Lb.mk 5 1).cells) rfl (by repeat (first | exact Rm.here | apply Rm.there)) (by first | exact C2_same _ _ _ _ | exact C4_same _ _ _ _ _ _ _ _ | exact Dc_same _ _ | rfl) rfl rfl rfl ?_
    clear hp
    intro s hp _
    conv => whnf
    refine Sm.live [5] ?_
    conv => whnf
    refine Sm.seqW ?_
    conv => whnf
    refine hp.alloc (cs := (Lb.mk 0 0).cells) (e := 2) rfl rfl rfl rfl rfl ?_
    clear hp
    intro p6 s hp _
    conv => whnf
    refine hp.storeW (vs := (Lb.mk 6 0).cells) rfl (by repeat (first | exact Rm.here | apply Rm.there)) (by first | exact C2_same _ _ _ _ | exact C4_same _ _ _ _ _ _ _ _ | exact Dc_same _ _ | rfl) rfl rfl rfl ?_
    clear hp
    intro s hp _
    conv => whnf
    refine Sm.live [5, 6] ?_
    conv => whnf
    refine Sm.seqW ?_
    conv => whnf
    have hm : memsF 9223372036854775938 = [1, 7] := by kernel_rfl
    refine hp.callO (members_spec (a := ⟨9223372036854775938, 0⟩) hp.wf ⟨by decide, by unfold inR; decide⟩) ?_
    clear hp
    intro v1 κ1 s hp _
    conv => whnf
    rw [show memsF (Lb.mk 9223372036854775938 0).set = [1, 7] from hm] at hp
    obtain ⟨a1, c1, rfl⟩ := (hp.slF (κ := κ1) (v := v1) (by repeat (first | exact Rm.here | apply Rm.there))).shape
    refine Sm.live [5, 6, 7] ?_
    conv => whnf
    refine Sm.seqW ?_
    conv => whnf
    refine ⟨[0, 1, 3, 3, 15, 3, 63, 127, 255, 511, 511, 2047, 511, 8191, 16383, 32767, 65535, 65535, 262143, 524287, 1048575, 2097151, 4194303, 4194303, 16777215, 4194303, 67108863, 134217727, 268435455, 536870911, 536870911, 2147483647, 4294967295, 8589934591, 17179869183, 17179869183, 68719476735, 137438953471, 274877906943, 549755813887, 549755813887, 2199023255551, 4398046511103, 8796093022207, 17592186044415, 35184372088831, 70368744177663, 140737488355327, 281474976710655, 562949953421311, 1125899906842623, 2251799813685247, 4503599627370495, 9007199254740991, 18014398509481983, 36028797018963967, 72057594037927935, 144115188075855871, 288230376151711743, 576460752303423487, 1152921504606846975, 2305843009213693951, 4611686018427387903, 9223372036854775807, 18446744073709551615, 36893488147419103231, 73786976294838206463, 147573952589676412927, 295147905179352825855, 590295810358705651711, 1180591620717411303423, 2361183241434822606847, 4722366482869645213695, 9444732965739290427391, 18889465931478580854783, 37778931862957161709567, 75557863725914323419135, 151115727451828646838271, 302231454903657293676543, 604462909807314587353087, 1208925819614629174706175], by decide +kernel, by decide +kernel, ?_⟩
    conv => whnf
    have k51 : (Lb.mk 5 1).ok := ⟨by decide, by unfold inR; decide⟩
    have k60 : (Lb.mk 6 0).ok := ⟨by decide, by unfold inR; decide⟩
    have k40 : (meetF ⟨5, 1⟩ ⟨6, 0⟩).ok := ⟨by decide, by unfold inR; decide⟩
    have k256 : (Lb.mk 256 0).ok := ⟨by decide, by unfold inR; decide⟩
    have k04 : (Lb.mk 0 4).ok := ⟨by decide, by unfold inR; decide⟩
    have k0m : (Lb.mk 0 (-1)).ok := ⟨by decide, by unfold inR; decide⟩
    have k00 : (Lb.mk 0 0).ok := ⟨by decide, by unfold inR; decide⟩
    have hpr1 : lprintF ⟨0, -1⟩ = [] := by kernel_rfl
    have hpr2 : lprintF ⟨0, 0⟩ = [48, 58] := by kernel_rfl
    repeat (first
      | (refine Br.yes (by first | with_reducible rfl | with_reducible assumption | rfl | kernel_rfl) ?_; conv => whnf)
      | (refine Br.no (by first | with_reducible rfl | with_reducible assumption | rfl | kernel_rfl) ?_; conv => whnf)
      | (refine hp.loadA (by repeat (first | exact Has.here | apply Has.there | (apply Has.swap; repeat (first | exact HasR.here | apply HasR.there)))) rfl (by rfl) rfl rfl ?_; conv => whnf)
      | (refine hp.rst.call (lknown_spec hp.rst.wf (hg.keep hp.rst.fr)) ?_; rintro _ s1 rfl h1 k1; (conv => whnf); refine hp.dkN h1 k1 ?_; clear hp h1 k1; intro s hp; conv => whnf)
      | (refine hp.rst.call (join_spec hp.rst.wf (a := ⟨5, 1⟩) (b := ⟨6, 0⟩) k51 k60) ?_; rintro _ s1 rfl h1 k1; (conv => whnf); refine hp.dkN h1 k1 ?_; clear hp h1 k1; intro s hp; conv => whnf)
      | (refine hp.rst.call (meet_spec hp.rst.wf (a := ⟨5, 1⟩) (b := ⟨6, 0⟩) k51 k60) ?_; rintro _ s1 rfl h1 k1; (conv => whnf); refine hp.dkN h1 k1 ?_; clear hp h1 k1; intro s hp; conv => whnf)
      | (refine hp.rst.call (below_spec hp.rst.wf (a := ⟨5, 1⟩) (b := ⟨6, 0⟩) k51 k60) ?_; rintro _ s1 rfl h1 k1; (conv => whnf); refine hp.dkN h1 k1 ?_; clear hp h1 k1; intro s hp; conv => whnf)
      | (refine hp.rst.call (below_spec hp.rst.wf (a := meetF ⟨5, 1⟩ ⟨6, 0⟩) (b := ⟨6, 0⟩) k40 k60) ?_; rintro _ s1 rfl h1 k1; (conv => whnf); refine hp.dkN h1 k1 ?_; clear hp h1 k1; intro s hp; conv => whnf)
      | (refine hp.rst.call (of_spec hp.rst.wf 3 9) ?_; rintro _ s1 rfl h1 k1; (conv => whnf); refine hp.dkN h1 k1 ?_; clear hp h1 k1; intro s hp; conv => whnf)
      | (refine hp.rst.call (of_spec hp.rst.wf 8 1) ?_; rintro _ s1 rfl h1 k1; (conv => whnf); refine hp.dkN h1 k1 ?_; clear hp h1 k1; intro s hp; conv => whnf)
      | (refine hp.rst.call (of_spec hp.rst.wf (-1) (-1)) ?_; rintro _ s1 rfl h1 k1; (conv => whnf); refine hp.dkN h1 k1 ?_; clear hp h1 k1; intro s hp; conv => whnf)
      | (refine hp.rst.call (lright_spec hp.rst.wf (a := ⟨256, 0⟩) k256) ?_; rintro _ s1 rfl h1 k1; (conv => whnf); refine hp.dkN h1 k1 ?_; clear hp h1 k1; intro s hp; conv => whnf)
      | (refine hp.rst.call (lright_spec hp.rst.wf (a := ⟨0, 4⟩) k04) ?_; rintro _ s1 rfl h1 k1; (conv => whnf); refine hp.dkN h1 k1 ?_; clear hp h1 k1; intro s hp; conv => whnf)
      | (refine hp.rst.call (lprint_spec hp.rst.wf (a := ⟨0, -1⟩) k0m) ?_; rintro _ s1 rfl h1 k1; (rw [hpr1]; conv => whnf); refine hp.dkN h1 k1 ?_; clear hp h1 k1; intro s hp; conv => whnf)
      | (refine hp.rst.call (lprint_spec hp.rst.wf (a := ⟨0, 0⟩) k00) ?_; rintro _ s1 rfl h1 k1; (rw [hpr2]; conv => whnf); refine hp.dkN h1 k1 ?_; clear hp h1 k1; intro s hp; conv => whnf)
      | (refine Om.of _ (lb_eq (joinF ⟨5, 1⟩ ⟨6, 0⟩) ⟨7, 1⟩ _) ?_; conv => whnf)
      | (refine Om.of _ (lb_eq (meetF ⟨5, 1⟩ ⟨6, 0⟩) ⟨4, 0⟩ _) ?_; conv => whnf)
      | (refine Om.of _ (lb_eq (ofF 3 9) ⟨8, 3⟩ _) ?_; conv => whnf)
      | (refine Om.of _ (lb_eq (ofF 8 1) ⟨0, 1⟩ _) ?_; conv => whnf)
      | (refine Om.of _ (lb_eq (ofF (-1) (-1)) ⟨0, 0⟩ _) ?_; conv => whnf)
      | (refine Om.of _ (str_eq _ _) ?_; conv => whnf))
    have ix : ∀ (i : Nat) (hi : i < 2), ∃ q, evIndexAddr Tryd.prog 32 (.slice a1 [1, 7].length c1) (.int .i64 (i : Int)) = some (.pointer (some q)) ∧ evLoad Tryd.prog 3 (.pointer (some q)) s = some (.int .i64 ((([1, 7] : List Nat)[i]'hi : Nat) : Int)) := fun i hi => by
      obtain ⟨p0, y0, e10, e20, e30, q, rfl⟩ := index_sl IL Tryd.underlying3 rfl (hp.slF (κ := κ1) (v := .slice a1 [1, 7].length c1) (by repeat (first | exact Rm.here | apply Rm.there))) .i64 (i := i) hi
      obtain rfl := natI_at (l := [1, 7]) (i := i) hi e20
      exact ⟨q, e10, e30⟩
    obtain ⟨q0, e1, e2⟩ := ix 0 (by decide)
    obtain ⟨q1, e3, e4⟩ := ix 1 (by decide)
    refine Om.of _ (e1) ?_
    conv => whnf
    repeat (first | (refine Br.yes (by first | with_reducible rfl | with_reducible exact beq_self_eq_true _ | rfl) ?_; conv => whnf) | (refine Br.no (by first | with_reducible rfl | with_reducible exact bne_self_eq_false _ | rfl) ?_; conv => whnf))
    refine Om.of _ (e2) ?_
    conv => whnf
    repeat (first | (refine Br.yes (by first | with_reducible rfl | with_reducible exact beq_self_eq_true _ | rfl) ?_; conv => whnf) | (refine Br.no (by first | with_reducible rfl | with_reducible exact bne_self_eq_false _ | rfl) ?_; conv => whnf))
    refine Om.of _ (e3) ?_
    conv => whnf
    repeat (first | (refine Br.yes (by first | with_reducible rfl | with_reducible exact beq_self_eq_true _ | rfl) ?_; conv => whnf) | (refine Br.no (by first | with_reducible rfl | with_reducible exact bne_self_eq_false _ | rfl) ?_; conv => whnf))
    refine Om.of _ (e4) ?_
    conv => whnf
    repeat (first | (refine Br.yes (by first | with_reducible rfl | with_reducible exact beq_self_eq_true _ | rfl) ?_; conv => whnf) | (refine Br.no (by first | with_reducible rfl | with_reducible exact bne_self_eq_false _ | rfl) ?_; conv => whnf))
    refine Sm.ofW ?_
    conv => whnf
    exact ⟨rfl⟩
end Go.Ev
end

/- The document's labels: Print, Members. No condition. -/
noncomputable section
namespace Go.Ev
open Go.Proofs
variable [Lk]
set_option linter.unusedSectionVars false
set_option linter.unusedVariables false
set_option maxRecDepth 100000

theorem dgt_conv : ∀ n : Nat, n < 10 → IntKind.u8.wrap (IntKind.i64.wrap (48 + (n : Int))) = ((dgt n).toNat : Int) := by decide +kernel
def memB (set k : Nat) : List Nat := (List.range k).filter fun i => set.testBit i
theorem memB_succ (set k : Nat) : memB set (k + 1) = memB set k ++ (if set.testBit k = true then [k] else []) := by
  unfold memB
  rw [List.range_succ, List.filter_append, List.filter_cons, List.filter_nil]
theorem memB_8 (set : Nat) : memB set 8 = memsF set := (mems_eq set).symm
theorem memB_len (set k : Nat) : (memB set k).length ≤ k := by
  have := List.length_filter_le (fun i => set.testBit i) (List.range k)
  rw [List.length_range] at this
  exact this
theorem lrprint_spec {z : St} (wf : WF z) {a : Lb} (ha : a.ok) : Cw Tryd.prog 27 [a.val] z fun r s' => K0 z s' ∧ r = sv (lprintF a) := by
  have hp : Hp (fun _ => False) z [] [] z := Hp.start _ wf _ (by simp)
  refine Cw.enterS Tryd.func27 rfl rfl ?_
  refine Sm.seqW ?_
  conv => whnf
  refine hp.var (cs := a.cells) (e := 2) rfl rfl ?_
  clear hp
  intro p1 s hp _
  conv => whnf
  refine Sm.live [1, 2] ?_
  conv => whnf
  refine Sm.seq ?_
  refine Sm.seqW ?_
  conv => whnf
  refine hp.loadA (l := a.cells) (by repeat (first | exact Has.here | apply Has.there | (apply Has.swap; repeat (first | exact HasR.here | apply HasR.there)))) rfl (by rfl) rfl rfl ?_
  conv => whnf
  refine hp.call (rright_spec hp.wf ha) ?_
  clear hp
  rintro _ s rfl hp _
  conv => whnf
  repeat (first | (refine Br.yes (by first | with_reducible rfl | with_reducible exact beq_self_eq_true _ | rfl) ?_; conv => whnf) | (refine Br.no (by first | with_reducible rfl | with_reducible exact bne_self_eq_false _ | rfl) ?_; conv => whnf))
  refine Sm.live [1, 2, 7] ?_
  conv => whnf
  refine Sm.ofW ?_
  conv => whnf
  unfold lprintF
  cases hr : rightF a with
  | false =>
    repeat (first | (refine Br.yes (by first | with_reducible rfl | with_reducible exact beq_self_eq_true _ | rfl) ?_; conv => whnf) | (refine Br.no (by first | with_reducible rfl | with_reducible exact bne_self_eq_false _ | rfl) ?_; conv => whnf))
    exact ⟨hp.fr, rfl⟩
  | true =>
    repeat (first | (refine Br.yes (by first | with_reducible rfl | with_reducible exact beq_self_eq_true _ | rfl) ?_; conv => whnf) | (refine Br.no (by first | with_reducible rfl | with_reducible exact bne_self_eq_false _ | rfl) ?_; conv => whnf))
    have hlev : 0 ≤ a.lev ∧ a.lev ≤ 3 := by
      unfold rightF at hr
      simp at hr
      exact hr.2
    obtain ⟨n, hn⟩ : ∃ n : Nat, a.lev = (n : Int) := ⟨a.lev.toNat, by omega⟩
    have hn3 : n ≤ 3 := by omega
    rw [show a.lev.toNat = n by omega]
    refine Sm.seqW ?_
    conv => whnf
    refine hp.load (v := .int .i64 a.lev) (by repeat (first | exact Has.here | apply Has.there | (apply Has.swap; repeat (first | exact HasR.here | apply HasR.there)))) (by rfl) rfl rfl rfl ?_
    conv => whnf
    rw [hn, dgt_conv n (by omega)]
    refine hp.lit (cs := byteVals [dgt n, 58]) (e := 1) (by rfl) ?_
    clear hp
    intro b s hp _
    conv => whnf
    refine Om.of _ (string_sl Tryd.underlying28 Tryd.underlying9 Tryd.underlying5 (l := [dgt n, 58]) (hp.blkSl (k := b) (b := b) (n := 2) (by repeat (first | exact Has.here | apply Has.there | (apply Has.swap; repeat (first | exact HasR.here | apply HasR.there)))) rfl)) ?_
    conv => whnf
    refine Sm.live [1, 3] ?_
    conv => whnf
    refine Sm.seq ?_
    refine Sm.seqW ?_
    conv => whnf
    refine Sm.live [1, 3, 4] ?_
    conv => whnf
    refine Sm.block ?_
    refine Sm.loop ?_
    refine Lp.ofS (α := Nat) (fun i => [(1, .pointer (some ⟨p1, 0, none⟩)), (3, sv (dgt n :: 58 :: (memB a.set i).map dgt)), (4, .int .i64 (i : Int))])
      (fun i s' => i ≤ 8 ∧ Hp (fun _ => False) z [] [blkA p1 p1 a.cells 2] s') (fun i => 8 - i) ?_ 0 (subK_ok (by refine ⟨rfl, rfl, rfl, trivial⟩)) ⟨Nat.zero_le _, hp.pik (by repeat (first | exact Pik.nil | exact Pik.refl _ | exact Rm.here | apply Rm.there | apply Pik.cons | apply Pik.skip))⟩
    clear hp
    rintro i s ⟨hi, hp⟩
    refine Sm.seq ?_
    refine Sm.seqW ?_
    conv => whnf
    refine Sm.live [1, 3, 4, 15] ?_
    conv => whnf
    refine Sm.ofW ?_
    conv => whnf
    refine Br.mk (fun hq => ?_) (fun hq => ?_)
    · have hq : i < 8 := by have : (i : Int) < 8 := of_decide_eq_true hq; omega
      have hstep := memB_succ a.set i
      have hlen := memB_len a.set i
      conv => whnf
      refine Sm.seq ?_
      refine Sm.block ?_
      refine Sm.seqW ?_
      conv => whnf
      refine hp.load (v := .int .u64 (a.set : Int)) (by repeat (first | exact Has.here | apply Has.there | (apply Has.swap; repeat (first | exact HasR.here | apply HasR.there)))) (by rfl) rfl rfl rfl ?_
      conv => whnf
      refine (has_spec _ ha.1 (show i < 64 by omega)).mono ?_
      rintro _ s1 ⟨h1, rfl⟩
      obtain rfl := h1.symm
      conv => whnf
      refine Sm.live [1, 3, 4, 21] ?_
      conv => whnf
      refine Sm.ofW ?_
      conv => whnf
      cases ht : a.set.testBit i with
      | true =>
        repeat (first | (refine Br.yes (by first | with_reducible rfl | with_reducible exact beq_self_eq_true _ | rfl) ?_; conv => whnf) | (refine Br.no (by first | with_reducible rfl | with_reducible exact bne_self_eq_false _ | rfl) ?_; conv => whnf))
        rw [dgt_conv i (by omega)]
        refine hp.lit (cs := byteVals [dgt i]) (e := 1) (by rfl) ?_
        clear hp
        intro b s hp _
        conv => whnf
        refine Om.of _ (string_sl Tryd.underlying28 Tryd.underlying9 Tryd.underlying5 (l := [dgt i]) (hp.blkSl (k := b) (b := b) (n := 1) (by repeat (first | exact Has.here | apply Has.there | (apply Has.swap; repeat (first | exact HasR.here | apply HasR.there)))) rfl)) ?_
        conv => whnf
        refine Om.of _ (str_add ⟨(dgt n :: 58 :: (memB a.set i).map dgt).toArray⟩ ⟨[dgt i].toArray⟩ (by show (dgt n :: 58 :: (memB a.set i).map dgt).length + 1 ≤ _; simp; omega)) ?_
        conv => whnf
        rw [ht, if_pos rfl] at hstep
        have e5 : (dgt n :: 58 :: (memB a.set i).map dgt) ++ [dgt i] = dgt n :: 58 :: (memB a.set (i + 1)).map dgt := by rw [hstep, List.map_append]; rfl
        refine Sm.ofW ?_
        conv => whnf
        exact ⟨i + 1, by (show 8 - (i + 1) < 8 - i); omega, subK_ok (by refine ⟨rfl, congrArg (fun x => some (sv x)) e5, congrArg (fun x => some (Value.int .i64 x)) (show IntKind.i64.wrap ((i : Int) + 1) = ((i + 1 : Nat) : Int) by rw [wi64 (by omega) (by omega)]; omega), trivial⟩), by omega, hp.pik (by repeat (first | exact Pik.nil | exact Pik.refl _ | exact Rm.here | apply Rm.there | apply Pik.cons | apply Pik.skip))⟩
      | false =>
        repeat (first | (refine Br.yes (by first | with_reducible rfl | with_reducible exact beq_self_eq_true _ | rfl) ?_; conv => whnf) | (refine Br.no (by first | with_reducible rfl | with_reducible exact bne_self_eq_false _ | rfl) ?_; conv => whnf))
        rw [ht, if_neg (by decide), List.append_nil] at hstep
        refine Sm.ofW ?_
        conv => whnf
        exact ⟨i + 1, by (show 8 - (i + 1) < 8 - i); omega, subK_ok (by refine ⟨rfl, congrArg (fun x : List Nat => some (sv (dgt n :: 58 :: x.map dgt))) hstep.symm, congrArg (fun x => some (Value.int .i64 x)) (show IntKind.i64.wrap ((i : Int) + 1) = ((i + 1 : Nat) : Int) by rw [wi64 (by omega) (by omega)]; omega), trivial⟩), by omega, hp.pik (by repeat (first | exact Pik.nil | exact Pik.refl _ | exact Rm.here | apply Rm.there | apply Pik.cons | apply Pik.skip))⟩
    · have hq : i = 8 := by have := of_decide_eq_false hq; omega
      subst hq
      rw [memB_8]
      conv => whnf
      refine Sm.seqW ?_
      conv => whnf
      refine Sm.ofW ?_
      conv => whnf
      exact ⟨hp.fr, rfl⟩
theorem rmembers_spec {z : St} (wf : WF z) {a : Lb} (ha : a.ok) : Cw Tryd.prog 29 [a.val] z fun r s' => K0 z s' ∧ OwnN z.next s' r 1 (memsF a.set).length (natI (memsF a.set)) := by
  have hp : Hp (fun _ => False) z [] [] z := Hp.start _ wf _ (by simp)
  refine Cw.enterS Tryd.func29 rfl rfl ?_
  refine Sm.seqW ?_
  conv => whnf
  refine hp.var (cs := a.cells) (e := 2) rfl rfl ?_
  clear hp
  intro p1 s hp _
  conv => whnf
  refine Sm.live [1] ?_
  conv => whnf
  refine Sm.seqW ?_
  conv => whnf
  refine Sm.live [1, 3] ?_
  conv => whnf
  refine Sm.seq ?_
  refine Sm.seqW ?_
  conv => whnf
  refine Sm.live [1, 3, 4] ?_
  conv => whnf
  refine Sm.block ?_
  refine Sm.loop ?_
  refine Lp.ofS (α := Nat × Value) (fun x => [(1, .pointer (some ⟨p1, 0, none⟩)), (3, x.2), (4, .int .i64 (x.1 : Int))])
    (fun x s' => x.1 ≤ 8 ∧ ∃ κ, Hp (fun _ => False) z [] [onA κ x.2 1 (memB a.set x.1).length (natI (memB a.set x.1)), blkA p1 p1 a.cells 2] s')
    (fun x => 8 - x.1) ?_ (0, .slice none 0 0) (subK_ok (by refine ⟨rfl, rfl, rfl, trivial⟩)) ⟨by omega, none, hp.push (.refl hp.wf) ⟨.inl ⟨rfl, rfl, rfl, rfl⟩⟩ (fun j hj => by cases hj)⟩
  clear hp
  rintro ⟨i, v⟩ s ⟨hi, κ, hp⟩
  simp only at hi hp ⊢
  refine Sm.seq ?_
  refine Sm.seqW ?_
  conv => whnf
  refine Sm.live [1, 3, 4, 6] ?_
  conv => whnf
  refine Sm.ofW ?_
  conv => whnf
  refine Br.mk (fun hq => ?_) (fun hq => ?_)
  · have hq : i < 8 := by have : (i : Int) < 8 := of_decide_eq_true hq; omega
    have hstep := memB_succ a.set i
    have hlen := memB_len a.set i
    conv => whnf
    refine Sm.seq ?_
    refine Sm.block ?_
    refine Sm.seqW ?_
    conv => whnf
    refine hp.load (v := .int .u64 (a.set : Int)) (by repeat (first | exact Has.here | apply Has.there | (apply Has.swap; repeat (first | exact HasR.here | apply HasR.there)))) (by rfl) rfl rfl rfl ?_
    conv => whnf
    refine (has_spec _ ha.1 (show i < 64 by omega)).mono ?_
    rintro _ s1 ⟨h1, rfl⟩
    obtain rfl := h1.symm
    conv => whnf
    refine Sm.live [1, 3, 4, 12] ?_
    conv => whnf
    refine Sm.ofW ?_
    conv => whnf
    cases ht : a.set.testBit i with
    | true =>
      repeat (first | (refine Br.yes (by first | with_reducible rfl | with_reducible exact beq_self_eq_true _ | rfl) ?_; conv => whnf) | (refine Br.no (by first | with_reducible rfl | with_reducible exact bne_self_eq_false _ | rfl) ?_; conv => whnf))
      rw [ht, if_pos rfl] at hstep
      refine hp.one IL rfl ?_
      clear hp
      intro v4 b4 s hp _
      conv => whnf
      have x4 : Sl s (some b4) v4 1 1 [.int .i64 (i : Int)] := Own.sl (hp.okF _ List.mem_cons_self)
      refine hp.app IL Tryd.underlying32 rfl (by repeat (first | exact Rm.here | apply Rm.there)) (elems_sl x4) rfl rfl (by omega) ?_
      clear hp x4
      intro v5 κ5 s hp
      have hnv : natI (memB a.set i) ++ [.int .i64 (i : Int)] = natI (memB a.set (i + 1)) := by rw [hstep, natI_app]; rfl
      have hln : (memB a.set i).length + 1 = (memB a.set (i + 1)).length := by rw [hstep]; simp
      rw [hnv, hln] at hp
      conv => whnf
      refine Sm.ofW ?_
      conv => whnf
      exact ⟨(i + 1, v5), by (show 8 - (i + 1) < 8 - i); omega, subK_ok (by refine ⟨rfl, rfl, congrArg (fun x => some (Value.int .i64 x)) (show IntKind.i64.wrap ((i : Int) + 1) = ((i + 1 : Nat) : Int) by rw [wi64 (by omega) (by omega)]; omega), trivial⟩), by (show i + 1 ≤ 8); omega, κ5, hp.pik (by repeat (first | exact Pik.nil | exact Pik.refl _ | exact Rm.here | apply Rm.there | apply Pik.cons | apply Pik.skip))⟩
    | false =>
      repeat (first | (refine Br.yes (by first | with_reducible rfl | with_reducible exact beq_self_eq_true _ | rfl) ?_; conv => whnf) | (refine Br.no (by first | with_reducible rfl | with_reducible exact bne_self_eq_false _ | rfl) ?_; conv => whnf))
      rw [ht, if_neg (by decide), List.append_nil] at hstep
      refine Sm.ofW ?_
      conv => whnf
      exact ⟨(i + 1, v), by (show 8 - (i + 1) < 8 - i); omega, subK_ok (by refine ⟨rfl, rfl, congrArg (fun x => some (Value.int .i64 x)) (show IntKind.i64.wrap ((i : Int) + 1) = ((i + 1 : Nat) : Int) by rw [wi64 (by omega) (by omega)]; omega), trivial⟩), by (show i + 1 ≤ 8); omega, κ, by (show Hp _ z [] [onA κ v 1 (memB a.set (i + 1)).length (natI (memB a.set (i + 1))), _] s); rw [hstep]; exact hp⟩
  · have hq : i = 8 := by have := of_decide_eq_false hq; omega
    subst hq
    rw [memB_8] at hp
    conv => whnf
    refine Sm.seqW ?_
    conv => whnf
    refine Sm.ofW ?_
    conv => whnf
    exact ⟨hp.fr, hp.out .here⟩
end Go.Ev
end

/- The document's labels: Read; labels out of numbers. No condition. -/
noncomputable section
namespace Go.Ev
open Go.Proofs
variable [Lk]
set_option linter.unusedSectionVars false
set_option linter.unusedVariables false
set_option maxRecDepth 100000

def rsS (n : Nat) (c : UInt8) : Nat := if 48 ≤ c.toNat ∧ c.toNat < 56 then n ||| 2 ^ (c.toNat - 48) else n
def rsF (l : List UInt8) : Nat := l.foldl rsS 0
theorem rsF_app (l : List UInt8) (c : UInt8) : rsF (l ++ [c]) = rsS (rsF l) c := by
  unfold rsF
  rw [List.foldl_append]; rfl
theorem rsS_lt {n : Nat} (h : n < 256) (c : UInt8) : rsS n c < 256 := by
  unfold rsS
  split
  · exact Nat.or_lt_two_pow (n := 8) h (Nat.pow_lt_pow_right (by decide) (by omega))
  · exact h
theorem rsF_lt' : ∀ (l : List UInt8) (n : Nat), n < 256 → l.foldl rsS n < 256
  | [], n, h => h
  | c :: l, n, h => rsF_lt' l _ (rsS_lt h c)
theorem rsF_lt (l : List UInt8) : rsF l < 256 := rsF_lt' l 0 (by decide)
theorem rs_or' : ∀ (M : List Nat) (n : Nat), (∀ k ∈ M, k < 8) → (M.map dgt).foldl rsS n = (M.map dgt).foldl (fun n (c : UInt8) => n ||| 2 ^ (c.toNat % 8)) n
  | [], n, _ => rfl
  | k :: M, n, h => by
    have hk := h k (by simp)
    have e : rsS n (dgt k) = n ||| 2 ^ ((dgt k).toNat % 8) := by
      unfold rsS
      rw [dgt_nat k (by omega), if_pos (by omega)]
      congr 2; omega
    show (M.map dgt).foldl rsS (rsS n (dgt k)) = (M.map dgt).foldl (fun n (c : UInt8) => n ||| 2 ^ (c.toNat % 8)) (n ||| 2 ^ ((dgt k).toNat % 8))
    rw [e]
    exact rs_or' M _ fun k hk => h k (by simp [hk])
theorem rs_or {M : List Nat} (h : ∀ k ∈ M, k < 8) : rsF (M.map dgt) = orF (M.map dgt) := rs_or' M 0 h
/-- What has been read before a place. -/
def stR (l : List UInt8) (i : Nat) : Lb := ⟨rsF ((l.take i).drop 2), if i = 0 then 0 else ((l.headD 0).toNat : Int) - 48⟩
theorem stR_ok (l : List UInt8) (i : Nat) : (stR l i).ok := by
  refine ⟨by have := rsF_lt ((l.take i).drop 2); show rsF ((l.take i).drop 2) < _; omega, ?_⟩
  have := (l.headD 0).toNat_lt
  unfold inR
  show -9223372036854775808 ≤ (if i = 0 then 0 else ((l.headD 0).toNat : Int) - 48) ∧ (if i = 0 then 0 else ((l.headD 0).toNat : Int) - 48) < 9223372036854775808
  split <;> omega
theorem stR_1 {l : List UInt8} (h : 0 < l.length) : stR l 1 = ⟨0, (l[0].toNat : Int) - 48⟩ := by
  match l, h with
  | c :: l, _ => rfl
theorem stR_2 {l : List UInt8} (h : 1 < l.length) : stR l 2 = stR l 1 := by
  match l, h with
  | c :: d :: l, _ => rfl
theorem stR_s {l : List UInt8} {i : Nat} (h2 : 2 ≤ i) (h : i < l.length) : stR l (i + 1) = ⟨rsS (stR l i).set l[i], (stR l i).lev⟩ := by
  unfold stR
  rw [List.take_add_one, List.getElem?_eq_getElem h, Option.toList_some, List.drop_append_of_le_length (by rw [List.length_take]; omega), rsF_app, if_neg (by omega), if_neg (by omega)]
theorem stR_end {l : List UInt8} (h : 0 < l.length) : stR l l.length = ⟨rsF (l.drop 2), ((l.headD 0).toNat : Int) - 48⟩ := by
  unfold stR
  rw [List.take_length, if_neg (by omega)]
def rreadA (l : List UInt8) : Value := if l.length < 2 ∨ lprintF (stR l l.length) ≠ l then .tuple #[(Lb.mk 0 0).val, .int .i64 2] else .tuple #[(stR l l.length).val, .int .i64 0]
theorem stR_dec {l : List UInt8} {a : Lb} (h : lprintF a = l) (h0 : l ≠ []) : 2 ≤ l.length ∧ stR l l.length = decF l := by
  obtain ⟨n, g1, g2, g3, g4⟩ := print_form h h0
  have hl : 2 ≤ l.length := by rw [g4]; simp
  refine ⟨hl, ?_⟩
  rw [stR_end (by omega)]
  unfold decF
  have : l.drop 2 = (memsF a.set).map dgt := congrArg (List.drop 2) g4
  rw [this, rs_or fun k hk => memsF_lt hk]
theorem rread_same (l : List UInt8) : rreadA l = .tuple #[(lreadF l).1.val, .int .i64 (lreadF l).2] := by
  unfold rreadA lreadF
  by_cases h0 : l = []
  · rw [if_pos (c := l.length < 2 ∨ lprintF (stR l l.length) ≠ l) (.inl (by rw [h0]; decide)), if_neg (c := l ≠ [] ∧ lprintF (decF l) = l) (fun h => h.1 h0)]
  by_cases h1 : lprintF (decF l) = l
  · obtain ⟨g1, g2⟩ := stR_dec h1 h0
    rw [g2, if_pos (c := l ≠ [] ∧ lprintF (decF l) = l) ⟨h0, h1⟩, if_neg (c := l.length < 2 ∨ lprintF (decF l) ≠ l) (fun h => h.elim (fun h => by omega) (fun h => h h1))]
  · rw [if_neg (c := l ≠ [] ∧ lprintF (decF l) = l) (fun h => h1 h.2)]
    by_cases h2 : lprintF (stR l l.length) = l
    · obtain ⟨g1, g2⟩ := stR_dec h2 h0
      rw [g2] at h2
      exact absurd h2 h1
    · rw [if_pos (c := l.length < 2 ∨ lprintF (stR l l.length) ≠ l) (.inr h2)]
theorem lrread_spec {z : St} (wf : WF z) (l : List UInt8) (hl : l.length ≤ 281474976710656) :
    Cw Tryd.prog 28 [sv l] z fun r s' => K0 z s' ∧ r = .tuple #[(lreadF l).1.val, .int .i64 (lreadF l).2] := by
  rw [← rread_same]
  have hp : Hp (fun _ => False) z [] [] z := Hp.start _ wf _ (by simp)
  refine Cw.enterS Tryd.func28 rfl rfl ?_
  refine Sm.seqW ?_
  conv => whnf
  refine hp.alloc (cs := (Lb.mk 0 0).cells) (e := 2) rfl rfl rfl rfl rfl ?_
  clear hp
  intro p2 s hp _
  conv => whnf
  refine Sm.live [0, 2] ?_
  conv => whnf
  refine Sm.seqW ?_
  conv => whnf
  refine hp.alloc (cs := (Lb.mk 0 0).cells) (e := 2) rfl rfl rfl rfl rfl ?_
  clear hp
  intro p4 s hp _
  conv => whnf
  refine hp.storeW (vs := (Lb.mk 0 0).cells) rfl (by repeat (first | exact Rm.here | apply Rm.there)) (by first | exact C2_same _ _ _ _ | exact C4_same _ _ _ _ _ _ _ _ | exact Dc_same _ _ | rfl) rfl rfl rfl ?_
  clear hp
  intro s hp _
  conv => whnf
  refine Sm.live [0, 2, 4] ?_
  conv => whnf
  refine Sm.seq ?_
  refine Sm.seqW ?_
  conv => whnf
  refine Sm.live [0, 2, 4, 5] ?_
  conv => whnf
  refine Sm.block ?_
  refine Sm.loop ?_
  refine Lp.ofS (α := Nat) (fun i => [(0, sv l), (2, .pointer (some ⟨p2, 0, none⟩)), (4, .pointer (some ⟨p4, 0, none⟩)), (5, .int .i64 (i : Int))])
    (fun i s' => i ≤ l.length ∧ Hp (fun _ => False) z [] [blkA p4 p4 (stR l i).cells 2, blkA p2 p2 (Lb.mk 0 0).cells 2] s') (fun i => l.length - i) ?_ 0 (subK_ok (by refine ⟨rfl, rfl, rfl, rfl, trivial⟩)) ⟨Nat.zero_le _, by (have e : stR l 0 = Lb.mk 0 0 := by unfold stR; simp; rfl); rw [e]; exact hp.pik (by repeat (first | exact Pik.nil | exact Pik.refl _ | exact Rm.here | apply Rm.there | apply Pik.cons | apply Pik.skip))⟩
  clear hp
  rintro i s ⟨hi, hp⟩
  refine Sm.seq ?_
  refine Sm.seqW ?_
  conv => whnf
  refine Sm.live [0, 2, 4, 5, 10] ?_
  conv => whnf
  refine Sm.ofW ?_
  conv => whnf
  refine Br.mk (fun hq => ?_) (fun hq => ?_)
  · have hq : i < l.length := by have : (i : Int) < (l.length : Int) := of_decide_eq_true hq; omega
    conv => whnf
    refine Sm.seq (Sm.mono (Q := fun e L' s' => e = .normal ∧ Hp (fun _ => False) z [] [blkA p4 p4 (stR l (i + 1)).cells 2, blkA p2 p2 (Lb.mk 0 0).cells 2] s' ∧ Sub [(0, sv l), (2, .pointer (some ⟨p2, 0, none⟩)), (4, .pointer (some ⟨p4, 0, none⟩)), (5, .int .i64 (i : Int))] L') ?_ ?_)
    · refine Sm.block ?_
      refine Sm.seq ?_
      refine Sm.seqW ?_
      conv => whnf
      refine Sm.live [0, 2, 4, 5, 14] ?_
      conv => whnf
      refine Sm.ofW ?_
      conv => whnf
      by_cases h0 : i = 0
      · subst h0
        refine Br.yes (beq_iff_eq.2 (by omega)) ?_
        conv => whnf
        refine Om.of _ (str_index Tryd.underlying9 (l := l) (i := 0) hq .i64) ?_
        conv => whnf
        have e1 : IntKind.i64.wrap (IntKind.i64.wrap (l[0].toNat : Int) - 48) = (l[0].toNat : Int) - 48 := by
          have := l[0].toNat_lt
          rw [wi64 (n := (l[0].toNat : Int)) (by omega) (by omega), wi64 (by omega) (by omega)]
        rw [e1]
        (refine hp.store (by repeat (first | exact Rm.here | apply Rm.there)) (by first | exact of_decide_eq_true rfl | (simp; done) | (simp; omega) | omega) rfl rfl rfl rfl ?_; intro s hp _; conv => whnf)
        replace hp : Hp (fun _ => False) z [] [blkA p4 p4 (stR l 1).cells 2, blkA p2 p2 (Lb.mk 0 0).cells 2] s := by
          rw [stR_1 hq]
          exact hp.pik (by repeat (first | exact Pik.nil | exact Pik.refl _ | exact Rm.here | apply Rm.there | apply Pik.cons | apply Pik.skip))
        refine Sm.live [0, 2, 4, 5] ?_
        conv => whnf
        refine Sm.ofW ?_
        conv => whnf
        repeat (first | (refine Br.yes (by first | with_reducible rfl | with_reducible exact beq_self_eq_true _ | rfl) ?_; conv => whnf) | (refine Br.no (by first | with_reducible rfl | with_reducible exact bne_self_eq_false _ | rfl) ?_; conv => whnf))
        exact ⟨rfl, hp.pik (by repeat (first | exact Pik.nil | exact Pik.refl _ | exact Rm.here | apply Rm.there | apply Pik.cons | apply Pik.skip)), subK_ok ⟨rfl, rfl, rfl, rfl, trivial⟩⟩
      · refine Br.no (beq_eq_false_iff_ne.2 (by omega)) ?_
        conv => whnf
        refine Sm.live [0, 2, 4, 5] ?_
        conv => whnf
        refine Sm.ofW ?_
        conv => whnf
        by_cases h1 : i = 1
        · subst h1
          repeat (first | (refine Br.yes (by first | with_reducible rfl | with_reducible exact beq_self_eq_true _ | rfl) ?_; conv => whnf) | (refine Br.no (by first | with_reducible rfl | with_reducible exact bne_self_eq_false _ | rfl) ?_; conv => whnf))
          rw [stR_2 hq]
          exact ⟨rfl, hp.pik (by repeat (first | exact Pik.nil | exact Pik.refl _ | exact Rm.here | apply Rm.there | apply Pik.cons | apply Pik.skip)), subK_ok ⟨rfl, rfl, rfl, rfl, trivial⟩⟩
        have q1 : decide ((i : Int) > 1) = true := decide_eq_true (by omega)
        have e9 := stR_s (l := l) (i := i) (by omega) hq
        have e8 : (stR l i).set < 256 := rsF_lt _
        obtain ⟨c, hc⟩ : ∃ c, c = l[i] := ⟨_, rfl⟩
        rw [← hc] at e9
        have hc256 := c.toNat_lt
        have hidx : evIndex Tryd.prog 9 (sv l) (.int .i64 (i : Int)) = some (.int .u8 ((c.toNat : Nat) : Int)) := by rw [hc]; exact str_index Tryd.underlying9 (l := l) (i := i) hq .i64
        by_cases h2 : 48 ≤ c.toNat
        · have q2 : decide ((c.toNat : Int) ≥ 48) = true := decide_eq_true (by omega)
          repeat (first | (refine Br.yes q1 ?_; conv => whnf) | (refine Br.yes q2 ?_; conv => whnf) | (refine Om.of _ hidx ?_; conv => whnf) | (first | (refine Br.yes (by first | with_reducible rfl | with_reducible exact beq_self_eq_true _ | rfl) ?_; conv => whnf) | (refine Br.no (by first | with_reducible rfl | with_reducible exact bne_self_eq_false _ | rfl) ?_; conv => whnf)))
          by_cases h3 : c.toNat < 56
          · have q3 : decide ((c.toNat : Int) < 56) = true := decide_eq_true (by omega)
            repeat (first | (refine Br.yes q1 ?_; conv => whnf) | (refine Br.yes q2 ?_; conv => whnf) | (refine Br.yes q3 ?_; conv => whnf) | (first | (refine Br.yes (by first | with_reducible rfl | with_reducible exact beq_self_eq_true _ | rfl) ?_; conv => whnf) | (refine Br.no (by first | with_reducible rfl | with_reducible exact bne_self_eq_false _ | rfl) ?_; conv => whnf)))
            refine ⟨[0, 1, 0, 0, 12, 28, 60, 124, 255, 511, 1023], by decide +kernel, by decide +kernel, ?_⟩
            conv => whnf
            refine hp.load (v := .int .u64 ((stR l i).set : Int)) (by repeat (first | exact Has.here | apply Has.there | (apply Has.swap; repeat (first | exact HasR.here | apply HasR.there)))) (by rfl) rfl rfl rfl ?_
            conv => whnf
            refine Om.of _ (hidx) ?_
            conv => whnf
            have e6 : IntKind.u64.wrap (IntKind.u8.wrap ((c.toNat : Int) - 48)) = ((c.toNat - 48 : Nat) : Int) := by
              rw [show (c.toNat : Int) - 48 = ((c.toNat - 48 : Nat) : Int) by omega, wrap_u8, wrap_u64]; omega
            rw [e6]
            refine Om.of _ (shl1 (k := c.toNat - 48) (by omega)) ?_
            conv => whnf
            rw [or_u64 (a := (stR l i).set) (by omega) (Nat.pow_lt_pow_right (by decide) (show c.toNat - 48 < 64 by omega))]
            (refine hp.rst.store (by repeat (first | exact Rm.here | apply Rm.there)) (by first | exact of_decide_eq_true rfl | (simp; done) | (simp; omega) | omega) rfl rfl rfl rfl ?_; intro s1 h1 l1; (conv => whnf); refine hp.dkW h1 l1 ?_; clear h1 l1; intro s hp; conv => whnf)
            have e10 : (stR l i).cells.set 0 (.int .u64 (((stR l i).set ||| 2 ^ (c.toNat - 48) : Nat) : Int)) = (stR l (i + 1)).cells := by
              rw [e9]; unfold rsS; rw [if_pos ⟨h2, h3⟩]; rfl
            replace hp : Hp (fun _ => False) z [] [blkA p4 p4 ((stR l i).cells.set 0 (.int .u64 (((stR l i).set ||| 2 ^ (c.toNat - 48) : Nat) : Int))) 2, blkA p2 p2 (Lb.mk 0 0).cells 2] s := hp.pik (by repeat (first | exact Pik.nil | exact Pik.refl _ | exact Rm.here | apply Rm.there | apply Pik.cons | apply Pik.skip))
            rw [e10] at hp
            exact ⟨rfl, hp.pik (by repeat (first | exact Pik.nil | exact Pik.refl _ | exact Rm.here | apply Rm.there | apply Pik.cons | apply Pik.skip)), subK_ok ⟨rfl, rfl, rfl, rfl, trivial⟩⟩
          · have q3 : decide ((c.toNat : Int) < 56) = false := decide_eq_false (by omega)
            have e7 : stR l (i + 1) = stR l i := by rw [e9]; unfold rsS; rw [if_neg (by omega)]
            rw [e7]
            repeat (first | (refine Br.yes q1 ?_; conv => whnf) | (refine Br.yes q2 ?_; conv => whnf) | (refine Br.no q3 ?_; conv => whnf) | (first | (refine Br.yes (by first | with_reducible rfl | with_reducible exact beq_self_eq_true _ | rfl) ?_; conv => whnf) | (refine Br.no (by first | with_reducible rfl | with_reducible exact bne_self_eq_false _ | rfl) ?_; conv => whnf)))
            exact ⟨rfl, hp.pik (by repeat (first | exact Pik.nil | exact Pik.refl _ | exact Rm.here | apply Rm.there | apply Pik.cons | apply Pik.skip)), subK_ok ⟨rfl, rfl, rfl, rfl, trivial⟩⟩
        · have q2 : decide ((c.toNat : Int) ≥ 48) = false := decide_eq_false (by omega)
          have e7 : stR l (i + 1) = stR l i := by rw [e9]; unfold rsS; rw [if_neg (by omega)]
          rw [e7]
          repeat (first | (refine Br.yes q1 ?_; conv => whnf) | (refine Br.no q2 ?_; conv => whnf) | (refine Om.of _ hidx ?_; conv => whnf) | (first | (refine Br.yes (by first | with_reducible rfl | with_reducible exact beq_self_eq_true _ | rfl) ?_; conv => whnf) | (refine Br.no (by first | with_reducible rfl | with_reducible exact bne_self_eq_false _ | rfl) ?_; conv => whnf)))
          exact ⟨rfl, hp.pik (by repeat (first | exact Pik.nil | exact Pik.refl _ | exact Rm.here | apply Rm.there | apply Pik.cons | apply Pik.skip)), subK_ok ⟨rfl, rfl, rfl, rfl, trivial⟩⟩
    · clear hp
      rintro e L' s ⟨rfl, hp, hs⟩
      refine Sm.weak _ hs ?_
      clear hs
      refine Sm.ofW ?_
      conv => whnf
      exact ⟨i + 1, by (show l.length - (i + 1) < l.length - i); omega, subK_ok (by refine ⟨rfl, rfl, rfl, congrArg (fun x => some (Value.int .i64 x)) (show IntKind.i64.wrap ((i : Int) + 1) = ((i + 1 : Nat) : Int) by rw [wi64 (by omega) (by omega)]; omega), trivial⟩), by (show i + 1 ≤ l.length); omega, hp⟩
  · have hq : i = l.length := by have := of_decide_eq_false (show decide ((i : Int) < ((l.length : Nat) : Int)) = false from hq); omega
    subst hq
    conv => whnf
    have hok := stR_ok l l.length
    obtain ⟨a, ea⟩ : ∃ a, a = stR l l.length := ⟨_, rfl⟩
    rw [← ea] at hp hok
    have fin1 : ∀ {b : Bool}, (l.length < 2 ∨ lprintF a ≠ l) → rreadA l = .tuple #[(Lb.mk 0 0).val, .int .i64 2] := fun {b} h => by
      unfold rreadA; rw [← ea]; exact if_pos h
    have fin2 : ¬ (l.length < 2 ∨ lprintF a ≠ l) → rreadA l = .tuple #[a.val, .int .i64 0] := fun h => by
      unfold rreadA; rw [← ea]; exact if_neg h
    refine Sm.seq ?_
    refine Sm.seqW ?_
    conv => whnf
    by_cases hlen : l.length < 2
    · have q1 : decide ((((bs ⟨l.toArray⟩).length : Nat) : Int) < 2) = true := decide_eq_true (by show ((l.length : Nat) : Int) < 2; omega)
      repeat (first | (refine Br.yes q1 ?_; conv => whnf) | (first | (refine Br.yes (by first | with_reducible rfl | with_reducible exact beq_self_eq_true _ | rfl) ?_; conv => whnf) | (refine Br.no (by first | with_reducible rfl | with_reducible exact bne_self_eq_false _ | rfl) ?_; conv => whnf)))
      refine Sm.ofW ?_
      conv => whnf
      repeat (first | (refine Br.yes q1 ?_; conv => whnf) | (first | (refine Br.yes (by first | with_reducible rfl | with_reducible exact beq_self_eq_true _ | rfl) ?_; conv => whnf) | (refine Br.no (by first | with_reducible rfl | with_reducible exact bne_self_eq_false _ | rfl) ?_; conv => whnf)))
      refine hp.storeW (vs := (Lb.mk 0 0).cells) rfl (by repeat (first | exact Rm.here | apply Rm.there)) (by first | exact C2_same _ _ _ _ | exact C4_same _ _ _ _ _ _ _ _ | exact Dc_same _ _ | rfl) rfl rfl rfl ?_
      clear hp
      intro s hp _
      conv => whnf
      refine hp.loadA (l := (Lb.mk 0 0).cells) (by repeat (first | exact Has.here | apply Has.there | (apply Has.swap; repeat (first | exact HasR.here | apply HasR.there)))) rfl (by rfl) rfl rfl ?_
      conv => whnf
      exact ⟨hp.fr, (fin1 (b := true) (.inl hlen)).symm⟩
    have q1 : decide ((((bs ⟨l.toArray⟩).length : Nat) : Int) < 2) = false := decide_eq_false (by show ¬ ((l.length : Nat) : Int) < 2; omega)
    repeat (first | (refine Br.no q1 ?_; conv => whnf) | (first | (refine Br.yes (by first | with_reducible rfl | with_reducible exact beq_self_eq_true _ | rfl) ?_; conv => whnf) | (refine Br.no (by first | with_reducible rfl | with_reducible exact bne_self_eq_false _ | rfl) ?_; conv => whnf)))
    refine hp.loadA (l := a.cells) (by repeat (first | exact Has.here | apply Has.there | (apply Has.swap; repeat (first | exact HasR.here | apply HasR.there)))) rfl (by rfl) rfl rfl ?_
    conv => whnf
    repeat (first | (refine Br.no q1 ?_; conv => whnf) | (first | (refine Br.yes (by first | with_reducible rfl | with_reducible exact beq_self_eq_true _ | rfl) ?_; conv => whnf) | (refine Br.no (by first | with_reducible rfl | with_reducible exact bne_self_eq_false _ | rfl) ?_; conv => whnf)))
    refine hp.call (lrprint_spec hp.wf hok) ?_
    clear hp
    rintro _ s rfl hp _
    conv => whnf
    repeat (first | (refine Br.no q1 ?_; conv => whnf) | (first | (refine Br.yes (by first | with_reducible rfl | with_reducible exact beq_self_eq_true _ | rfl) ?_; conv => whnf) | (refine Br.no (by first | with_reducible rfl | with_reducible exact bne_self_eq_false _ | rfl) ?_; conv => whnf)))
    refine Om.of _ (str_ne ⟨(lprintF a).toArray⟩ ⟨l.toArray⟩) ?_
    conv => whnf
    have e8 : (!(bs ⟨(lprintF a).toArray⟩ == bs ⟨l.toArray⟩)) = decide (lprintF a ≠ l) := by
      show (!(lprintF a == l)) = _
      rw [Bool.eq_iff_iff, decide_eq_true_iff, Bool.not_eq_true', beq_eq_false_iff_ne]
    rw [e8]
    by_cases h1 : lprintF a = l
    · have q2 : decide (lprintF a ≠ l) = false := decide_eq_false (fun h => h h1)
      repeat (first | (refine Br.no q1 ?_; conv => whnf) | (refine Br.no q2 ?_; conv => whnf) | (first | (refine Br.yes (by first | with_reducible rfl | with_reducible exact beq_self_eq_true _ | rfl) ?_; conv => whnf) | (refine Br.no (by first | with_reducible rfl | with_reducible exact bne_self_eq_false _ | rfl) ?_; conv => whnf)))
      refine Sm.ofW ?_
      conv => whnf
      repeat (first | (refine Br.no q1 ?_; conv => whnf) | (refine Br.no q2 ?_; conv => whnf) | (first | (refine Br.yes (by first | with_reducible rfl | with_reducible exact beq_self_eq_true _ | rfl) ?_; conv => whnf) | (refine Br.no (by first | with_reducible rfl | with_reducible exact bne_self_eq_false _ | rfl) ?_; conv => whnf)))
      conv => whnf
      refine Sm.live [2, 4] ?_
      conv => whnf
      refine Sm.seqW ?_
      conv => whnf
      refine hp.loadA (l := a.cells) (by repeat (first | exact Has.here | apply Has.there | (apply Has.swap; repeat (first | exact HasR.here | apply HasR.there)))) rfl (by rfl) rfl rfl ?_
      conv => whnf
      refine hp.storeW (vs := a.cells) rfl (by repeat (first | exact Rm.here | apply Rm.there)) (by first | exact C2_same _ _ _ _ | exact C4_same _ _ _ _ _ _ _ _ | exact Dc_same _ _ | rfl) rfl rfl rfl ?_
      clear hp
      intro s hp _
      conv => whnf
      refine Sm.ofW ?_
      conv => whnf
      refine hp.loadA (l := a.cells) (by repeat (first | exact Has.here | apply Has.there | (apply Has.swap; repeat (first | exact HasR.here | apply HasR.there)))) rfl (by rfl) rfl rfl ?_
      conv => whnf
      exact ⟨hp.fr, (fin2 (fun h => h.elim hlen (fun h => h h1))).symm⟩
    · have q2 : decide (lprintF a ≠ l) = true := decide_eq_true h1
      repeat (first | (refine Br.no q1 ?_; conv => whnf) | (refine Br.yes q2 ?_; conv => whnf) | (first | (refine Br.yes (by first | with_reducible rfl | with_reducible exact beq_self_eq_true _ | rfl) ?_; conv => whnf) | (refine Br.no (by first | with_reducible rfl | with_reducible exact bne_self_eq_false _ | rfl) ?_; conv => whnf)))
      refine Sm.ofW ?_
      conv => whnf
      repeat (first | (refine Br.no q1 ?_; conv => whnf) | (refine Br.yes q2 ?_; conv => whnf) | (first | (refine Br.yes (by first | with_reducible rfl | with_reducible exact beq_self_eq_true _ | rfl) ?_; conv => whnf) | (refine Br.no (by first | with_reducible rfl | with_reducible exact bne_self_eq_false _ | rfl) ?_; conv => whnf)))
      refine hp.storeW (vs := (Lb.mk 0 0).cells) rfl (by repeat (first | exact Rm.here | apply Rm.there)) (by first | exact C2_same _ _ _ _ | exact C4_same _ _ _ _ _ _ _ _ | exact Dc_same _ _ | rfl) rfl rfl rfl ?_
      clear hp
      intro s hp _
      conv => whnf
      refine hp.loadA (l := (Lb.mk 0 0).cells) (by repeat (first | exact Has.here | apply Has.there | (apply Has.swap; repeat (first | exact HasR.here | apply HasR.there)))) rfl (by rfl) rfl rfl ?_
      conv => whnf
      exact ⟨hp.fr, (fin1 (b := true) (.inr h1)).symm⟩
end Go.Ev
end

/- LabelTells walked. No condition. -/
noncomputable section
namespace Go.Ev
open Go.Proofs
variable [Lk]
set_option linter.unusedSectionVars false
set_option linter.unusedVariables false
set_option maxRecDepth 100000

theorem u64n (x : Int) : ∃ m : Nat, IntKind.u64.wrap x = (m : Int) ∧ m < 18446744073709551616 := by
  obtain ⟨h1, h2⟩ := u64_rng x
  exact ⟨(IntKind.u64.wrap x).toNat, by omega, by omega⟩
theorem hlabel_spec {z : St} (wf : WF z) {n level : Int} (hn : inR n) (hl : inR level) : Cw Tryd.prog 26 [.int .i64 n, .int .i64 level] z fun r s' => K0 z s' ∧ ∃ a : Lb, a.ok ∧ r = a.val := by
  have hp : Hp (fun _ => False) z [] [] z := Hp.start _ wf _ (by simp)
  refine Cw.enterS Tryd.func26 rfl rfl ?_
  refine Sm.seqW ?_
  conv => whnf
  refine hp.alloc (cs := (Lb.mk 0 0).cells) (e := 2) rfl rfl rfl rfl rfl ?_
  clear hp
  intro p4 s hp _
  conv => whnf
  refine Sm.live [0, 1, 4] ?_
  conv => whnf
  refine Sm.seq ?_
  refine Sm.seqW ?_
  conv => whnf
  refine (pick_spec _ hl (m := 12) (by decide) (by decide)).mono ?_
  rintro _ s1 ⟨h1, rfl⟩
  obtain rfl := h1.symm
  conv => whnf
  refine Sm.live [0, 1, 4, 6] ?_
  conv => whnf
  refine Sm.ofW ?_
  conv => whnf
  by_cases h10 : level % 12 = 10
  · refine Br.yes (beq_iff_eq.2 h10) ?_
    conv => whnf
    obtain ⟨m, e, hm⟩ := u64n n
    rw [e]
    refine hp.storeW (vs := (Lb.mk m level).cells) rfl (by repeat (first | exact Rm.here | apply Rm.there)) (by first | exact C2_same _ _ _ _ | exact C4_same _ _ _ _ _ _ _ _ | exact Dc_same _ _ | rfl) rfl rfl rfl ?_
    clear hp
    intro s hp _
    conv => whnf
    refine hp.loadA (l := (Lb.mk m level).cells) (by repeat (first | exact Has.here | apply Has.there | (apply Has.swap; repeat (first | exact HasR.here | apply HasR.there)))) rfl (by rfl) rfl rfl ?_
    conv => whnf
    exact ⟨hp.fr, ⟨m, level⟩, ⟨hm, hl⟩, rfl⟩
  refine Br.no (beq_eq_false_iff_ne.2 h10) ?_
  conv => whnf
  by_cases h11 : level % 12 = 11
  · refine Br.yes (beq_iff_eq.2 h11) ?_
    conv => whnf
    refine (pick_spec _ hn (m := 512) (by decide) (by decide)).mono ?_
    rintro _ s1 ⟨h1, rfl⟩
    obtain rfl := h1.symm
    conv => whnf
    obtain ⟨m, e, hm⟩ := u64n (n % 512)
    rw [e]
    obtain ⟨q1, q2⟩ := quo_int (P := Tryd.prog) (t := 3) (cst := false) (n := level) (m := 12) (by decide) hl
    refine Om.of _ (q1) ?_
    conv => whnf
    refine (pick_spec _ q2 (m := 7) (by decide) (by decide)).mono ?_
    rintro _ s1 ⟨h1, rfl⟩
    obtain rfl := h1.symm
    conv => whnf
    obtain ⟨x, ex⟩ : ∃ x, x = IntKind.i64.wrap (level.tdiv 12 % 7 - 2) := ⟨_, rfl⟩
    rw [← ex]
    refine hp.storeW (vs := (Lb.mk m x).cells) rfl (by repeat (first | exact Rm.here | apply Rm.there)) (by first | exact C2_same _ _ _ _ | exact C4_same _ _ _ _ _ _ _ _ | exact Dc_same _ _ | rfl) rfl rfl rfl ?_
    clear hp
    intro s hp _
    conv => whnf
    refine hp.loadA (l := (Lb.mk m x).cells) (by repeat (first | exact Has.here | apply Has.there | (apply Has.swap; repeat (first | exact HasR.here | apply HasR.there)))) rfl (by rfl) rfl rfl ?_
    conv => whnf
    exact ⟨hp.fr, ⟨m, x⟩, ⟨hm, by rw [ex]; exact i64_rng _⟩, rfl⟩
  refine Br.no (beq_eq_false_iff_ne.2 h11) ?_
  conv => whnf
  refine Sm.seqW ?_
  conv => whnf
  refine (pick_spec _ hn (m := 256) (by decide) (by decide)).mono ?_
  rintro _ s1 ⟨h1, rfl⟩
  obtain rfl := h1.symm
  conv => whnf
  obtain ⟨m, e, hm⟩ := u64n (n % 256)
  rw [e]
  refine (pick_spec _ hl (m := 4) (by decide) (by decide)).mono ?_
  rintro _ s1 ⟨h1, rfl⟩
  obtain rfl := h1.symm
  conv => whnf
  refine hp.storeW (vs := (Lb.mk m (level % 4)).cells) rfl (by repeat (first | exact Rm.here | apply Rm.there)) (by first | exact C2_same _ _ _ _ | exact C4_same _ _ _ _ _ _ _ _ | exact Dc_same _ _ | rfl) rfl rfl rfl ?_
  clear hp
  intro s hp _
  conv => whnf
  refine Sm.ofW ?_
  conv => whnf
  refine hp.loadA (l := (Lb.mk m (level % 4)).cells) (by repeat (first | exact Has.here | apply Has.there | (apply Has.swap; repeat (first | exact HasR.here | apply HasR.there)))) rfl (by rfl) rfl rfl ?_
  conv => whnf
  exact ⟨hp.fr, ⟨m, level % 4⟩, ⟨hm, by show inR (level % 4); unfold inR; omega⟩, rfl⟩
/-- The five pieces. -/
def pcC : List Value := [sv [48], sv [55], sv [58], sv [32], sv [56]]
theorem pc_at {i : Nat} (h : i < 5) : ∃ c : UInt8, evIndex Tryd.prog 57 (.agg pcC.toArray) (.int .i64 (i : Int)) = some (sv [c]) := by
  match i, h with
  | 0, _ => exact ⟨_, rfl⟩
  | 1, _ => exact ⟨_, rfl⟩
  | 2, _ => exact ⟨_, rfl⟩
  | 3, _ => exact ⟨_, rfl⟩
  | 4, _ => exact ⟨_, rfl⟩
theorem labelTells_walk {s0 : St} (wf : WF s0) (hg : Gs s0) {n level m other ent : Int} (hn : inR n) (hl : inR level) (hm : inR m) (ho : inR other) (he : inR ent) {str : ByteArray} (hstr : (bs str).length ≤ 140737488351232) {bend : Int} (hb : inR bend) :
    Cw Tryd.prog 11 [.int .i64 n, .int .i64 level, .int .i64 m, .int .i64 other, .int .i64 ent, .string str, .int .i64 bend] s0 fun r _ => r = .bool true := by
  rw [sv_bs str]
  generalize bs str = S at *
  have hp : Hp (fun _ => False) s0 [] [] s0 := Hp.start _ wf _ (by simp)
  refine Cw.enterS Tryd.func11 rfl rfl ?_
  refine Sm.seqW ?_
  conv => whnf
  refine Sm.live [0, 1, 2, 3, 4, 5, 6] ?_
  conv => whnf
  refine Sm.seqW ?_
  conv => whnf
  refine hp.call (hlabel_spec hp.wf hn hl) ?_
  clear hp
  rintro _ s ⟨a, ha, rfl⟩ hp _
  conv => whnf
  refine hp.alloc (cs := (Lb.mk 0 0).cells) (e := 2) rfl rfl rfl rfl rfl ?_
  clear hp
  intro p15 s hp _
  conv => whnf
  refine hp.storeW (vs := a.cells) rfl (by repeat (first | exact Rm.here | apply Rm.there)) (by first | exact C2_same _ _ _ _ | exact C4_same _ _ _ _ _ _ _ _ | exact Dc_same _ _ | rfl) rfl rfl rfl ?_
  clear hp
  intro s hp _
  conv => whnf
  refine Sm.live [1, 2, 3, 4, 5, 6, 15] ?_
  conv => whnf
  refine Sm.seqW ?_
  conv => whnf
  refine hp.call (hlabel_spec hp.wf hm ho) ?_
  clear hp
  rintro _ s ⟨b, hbk, rfl⟩ hp _
  conv => whnf
  refine hp.alloc (cs := (Lb.mk 0 0).cells) (e := 2) rfl rfl rfl rfl rfl ?_
  clear hp
  intro p16 s hp _
  conv => whnf
  refine hp.storeW (vs := b.cells) rfl (by repeat (first | exact Rm.here | apply Rm.there)) (by first | exact C2_same _ _ _ _ | exact C4_same _ _ _ _ _ _ _ _ | exact Dc_same _ _ | rfl) rfl rfl rfl ?_
  clear hp
  intro s hp _
  conv => whnf
  refine Sm.live [1, 2, 4, 5, 6, 15, 16] ?_
  conv => whnf
  refine Sm.seqW ?_
  conv => whnf
  refine hp.loadA (l := a.cells) (by repeat (first | exact Has.here | apply Has.there | (apply Has.swap; repeat (first | exact HasR.here | apply HasR.there)))) rfl (by rfl) rfl rfl ?_
  conv => whnf
  refine hp.call (lprint_spec hp.wf ha) ?_
  clear hp
  rintro _ s rfl hp _
  conv => whnf
  refine Sm.live [1, 2, 4, 5, 6, 15, 16, 17] ?_
  conv => whnf
  refine Sm.seqW ?_
  conv => whnf
  refine hp.loadA (l := a.cells) (by repeat (first | exact Has.here | apply Has.there | (apply Has.swap; repeat (first | exact HasR.here | apply HasR.there)))) rfl (by rfl) rfl rfl ?_
  conv => whnf
  refine hp.call (lrprint_spec hp.wf ha) ?_
  clear hp
  rintro _ s rfl hp _
  conv => whnf
  have hpl := lprint_len a
  obtain ⟨T, hT⟩ : ∃ T, T = lprintF a := ⟨_, rfl⟩
  rw [← hT] at hpl ⊢
  refine Sm.live [1, 2, 4, 5, 6, 15, 16, 17, 18] ?_
  conv => whnf
  refine Sm.seq ?_
  refine Sm.seqW ?_
  conv => whnf
  refine Om.of _ (str_ne ⟨T.toArray⟩ ⟨T.toArray⟩) ?_
  conv => whnf
  have e0 : (!(bs ⟨T.toArray⟩ == bs ⟨T.toArray⟩)) = false := by rw [beq_self_eq_true]; rfl
  refine Sm.ofW ?_
  conv => whnf
  refine Br.no e0 ?_
  conv => whnf
  refine Sm.live [1, 2, 4, 5, 6, 15, 16, 18] ?_
  conv => whnf
  refine Sm.seq ?_
  refine Sm.seqW ?_
  conv => whnf
  refine (pick_spec _ hb (m := 4) (by decide) (by decide)).mono ?_
  rintro _ s1 ⟨h1, rfl⟩
  obtain rfl := h1.symm
  conv => whnf
  refine Sm.live [1, 2, 4, 5, 6, 15, 16, 18, 42] ?_
  conv => whnf
  refine Sm.mono (Q := fun e L' s' => e = .normal ∧ Hp (fun _ => False) s0 [] [blkA p16 p16 b.cells 2, blkA p15 p15 a.cells 2] s' ∧ ∃ U : List UInt8, U.length ≤ 140737488351232 ∧ Sub [(1, .int .i64 level), (4, .int .i64 ent), (15, .pointer (some ⟨p15, 0, none⟩)), (16, .pointer (some ⟨p16, 0, none⟩)), (18, sv U)] L') ?_ ?_
  · refine Sm.block ?_
    refine Sm.ofW ?_
    conv => whnf
    by_cases h1 : bend % 4 = 1
    · refine Br.yes (beq_iff_eq.2 h1) ?_
      conv => whnf
      exact ⟨rfl, hp.pik (by repeat (first | exact Pik.nil | exact Pik.refl _ | exact Rm.here | apply Rm.there | apply Pik.cons | apply Pik.skip)), S, hstr, subK_ok ⟨rfl, rfl, rfl, rfl, rfl, trivial⟩⟩
    refine Br.no (beq_eq_false_iff_ne.2 h1) ?_
    conv => whnf
    by_cases h2 : bend % 4 = 2
    · refine Br.yes (beq_iff_eq.2 h2) ?_
      conv => whnf
      obtain ⟨q1, q2⟩ := quo_int (P := Tryd.prog) (t := 3) (cst := false) (n := bend) (m := 4) (by decide) hb
      refine Om.of _ (q1) ?_
      conv => whnf
      have e1 : IntKind.i64.wrap ((((bs ⟨T.toArray⟩).length : Nat) : Int) + 1) = ((T.length + 1 : Nat) : Int) := by
        show IntKind.i64.wrap ((T.length : Int) + 1) = _
        rw [wi64 (by omega) (by omega)]; omega
      rw [e1]
      refine (pick_spec _ q2 (m := ((T.length + 1 : Nat) : Int)) (by omega) (by omega)).mono ?_
      rintro _ s1 ⟨h1, rfl⟩
      obtain rfl := h1.symm
      conv => whnf
      obtain ⟨k, ek, hk⟩ : ∃ k : Nat, bend.tdiv 4 % ((T.length + 1 : Nat) : Int) = (k : Int) ∧ k ≤ T.length := by
        have g1 := Int.emod_nonneg (bend.tdiv 4) (show ((T.length + 1 : Nat) : Int) ≠ 0 by omega)
        have g2 := Int.emod_lt_of_pos (bend.tdiv 4) (show (0 : Int) < ((T.length + 1 : Nat) : Int) by omega)
        exact ⟨(bend.tdiv 4 % ((T.length + 1 : Nat) : Int)).toNat, by omega, by omega⟩
      rw [ek]
      refine ⟨[0, 0, 3, 0, 0, 16, 56, 127, 0, 0, 768, 2047, 4095], by decide +kernel, by decide +kernel, ?_⟩
      conv => whnf
      refine Om.of _ (str_take Tryd.underlying9 (l := T) .i64 (j := k) hk) ?_
      conv => whnf
      refine (pick_spec _ hm (m := 5) (by decide) (by decide)).mono ?_
      rintro _ s1 ⟨h1, rfl⟩
      obtain rfl := h1.symm
      conv => whnf
      refine hp.dkS ?_
      conv => whnf
      obtain ⟨j, ej, hj⟩ : ∃ j : Nat, m % 5 = (j : Int) ∧ j < 5 := ⟨(m % 5).toNat, by omega, by omega⟩
      rw [ej]
      obtain ⟨c, hc⟩ := pc_at hj
      refine Om.of _ (hc) ?_
      conv => whnf
      have l1 : (T.take k).length = k := by rw [List.length_take]; omega
      have l2 : (T.drop k).length = T.length - k := List.length_drop
      refine Om.of _ (str_add ⟨(T.take k).toArray⟩ ⟨[c].toArray⟩ (by show (T.take k).length + 1 ≤ _; omega)) ?_
      conv => whnf
      refine Om.of _ (str_drop Tryd.underlying9 (l := T) .i64 (j := k) hk) ?_
      conv => whnf
      refine Om.of _ (str_add ⟨(T.take k ++ [c]).toArray⟩ ⟨(T.drop k).toArray⟩ (by show (T.take k ++ [c]).length + (T.drop k).length ≤ _; rw [List.length_append, l1, l2]; simp; omega)) ?_
      conv => whnf
      exact ⟨rfl, hp.pik (by repeat (first | exact Pik.nil | exact Pik.refl _ | exact Rm.here | apply Rm.there | apply Pik.cons | apply Pik.skip)), (T.take k ++ [c]) ++ T.drop k, by rw [List.length_append, List.length_append, l1, l2]; simp; omega, subK_ok ⟨rfl, rfl, rfl, rfl, rfl, trivial⟩⟩
    · refine Br.no (beq_eq_false_iff_ne.2 h2) ?_
      conv => whnf
      exact ⟨rfl, hp.pik (by repeat (first | exact Pik.nil | exact Pik.refl _ | exact Rm.here | apply Rm.there | apply Pik.cons | apply Pik.skip)), T, by omega, subK_ok ⟨rfl, rfl, rfl, rfl, rfl, trivial⟩⟩
  clear hp
  rintro e L' s ⟨rfl, hp, U, hU, hs⟩
  refine Sm.weak _ hs ?_
  clear hs
  refine Sm.seqW ?_
  conv => whnf
  refine hp.call (lread_spec hp.wf (hg.keep hp.fr) U (by omega)) ?_
  clear hp
  rintro _ s rfl hp _
  conv => whnf
  refine hp.alloc (cs := (Lb.mk 0 0).cells) (e := 2) rfl rfl rfl rfl rfl ?_
  clear hp
  intro p20 s hp _
  conv => whnf
  refine hp.storeW (vs := (lreadF U).1.cells) rfl (by repeat (first | exact Rm.here | apply Rm.there)) (by first | exact C2_same _ _ _ _ | exact C4_same _ _ _ _ _ _ _ _ | exact Dc_same _ _ | rfl) rfl rfl rfl ?_
  clear hp
  intro s hp _
  conv => whnf
  refine Sm.live [1, 4, 15, 16, 18, 20, 21] ?_
  conv => whnf
  refine Sm.seqW ?_
  conv => whnf
  refine hp.call (lrread_spec hp.wf U (by omega)) ?_
  clear hp
  rintro _ s rfl hp _
  conv => whnf
  refine hp.alloc (cs := (Lb.mk 0 0).cells) (e := 2) rfl rfl rfl rfl rfl ?_
  clear hp
  intro p22 s hp _
  conv => whnf
  refine hp.storeW (vs := (lreadF U).1.cells) rfl (by repeat (first | exact Rm.here | apply Rm.there)) (by first | exact C2_same _ _ _ _ | exact C4_same _ _ _ _ _ _ _ _ | exact Dc_same _ _ | rfl) rfl rfl rfl ?_
  clear hp
  intro s hp _
  conv => whnf
  refine Sm.live [1, 4, 15, 16, 20, 21, 22, 23] ?_
  conv => whnf
  refine Sm.seqW ?_
  conv => whnf
  refine hp.loadA (l := a.cells) (by repeat (first | exact Has.here | apply Has.there | (apply Has.swap; repeat (first | exact HasR.here | apply HasR.there)))) rfl (by rfl) rfl rfl ?_
  conv => whnf
  refine hp.callO (members_spec hp.wf ha) ?_
  clear hp
  intro v1 κ1 s hp _
  conv => whnf
  obtain ⟨aw, cw, rfl⟩ := (hp.slF (κ := κ1) (v := v1) (by repeat (first | exact Rm.here | apply Rm.there))).shape
  refine Sm.live [1, 4, 15, 16, 20, 21, 22, 23, 24] ?_
  conv => whnf
  refine Sm.seqW ?_
  conv => whnf
  refine hp.loadA (l := a.cells) (by repeat (first | exact Has.here | apply Has.there | (apply Has.swap; repeat (first | exact HasR.here | apply HasR.there)))) rfl (by rfl) rfl rfl ?_
  conv => whnf
  refine hp.callO (rmembers_spec hp.wf ha) ?_
  clear hp
  intro v2 κ2 s hp _
  conv => whnf
  obtain ⟨a2, c2, rfl⟩ := (hp.slF (κ := κ2) (v := v2) (by repeat (first | exact Rm.here | apply Rm.there))).shape
  refine Sm.live [1, 4, 15, 16, 20, 21, 22, 23, 24, 25] ?_
  conv => whnf
  refine Sm.seq ?_
  refine Sm.seqW ?_
  conv => whnf
  refine Sm.ofW ?_
  conv => whnf
  repeat (first | (refine Br.yes (by first | with_reducible rfl | with_reducible exact beq_self_eq_true _ | rfl) ?_; conv => whnf) | (refine Br.no (by first | with_reducible rfl | with_reducible exact bne_self_eq_false _ | rfl) ?_; conv => whnf))
  refine Sm.live [1, 4, 15, 16, 20, 21, 22, 23, 24, 25] ?_
  conv => whnf
  refine Sm.seq ?_
  refine Sm.seqW ?_
  conv => whnf
  refine Sm.live [1, 4, 15, 16, 20, 21, 22, 23, 24, 25, 86, 87] ?_
  conv => whnf
  refine Sm.block ?_
  refine Sm.loop ?_
  have hml := memsF_len a.set
  refine Lp.ofS (α := Nat) (fun i => [(1, .int .i64 level), (4, .int .i64 ent), (15, .pointer (some ⟨p15, 0, none⟩)), (16, .pointer (some ⟨p16, 0, none⟩)), (20, .pointer (some ⟨p20, 0, none⟩)), (21, .int .i64 (lreadF U).2), (22, .pointer (some ⟨p22, 0, none⟩)), (23, .int .i64 (lreadF U).2), (24, .slice aw (memsF a.set).length cw), (25, .slice a2 (memsF a.set).length c2), (86, .int .i64 (((memsF a.set).length : Nat) : Int)), (87, .int .i64 (i : Int))])
    (fun i s' => i ≤ (memsF a.set).length ∧ Hp (fun _ => False) s0 [] [onA κ2 (.slice a2 (memsF a.set).length c2) 1 (memsF a.set).length (natI (memsF a.set)), onA κ1 (.slice aw (memsF a.set).length cw) 1 (memsF a.set).length (natI (memsF a.set)), blkA p22 p22 (lreadF U).1.cells 2, blkA p20 p20 (lreadF U).1.cells 2, blkA p16 p16 b.cells 2, blkA p15 p15 a.cells 2] s') (fun i => (memsF a.set).length - i) ?_ 0 (subK_ok (by refine ⟨rfl, rfl, rfl, rfl, rfl, rfl, rfl, rfl, rfl, rfl, rfl, rfl, trivial⟩)) ⟨Nat.zero_le _, hp.pik (by repeat (first | exact Pik.nil | exact Pik.refl _ | exact Rm.here | apply Rm.there | apply Pik.cons | apply Pik.skip))⟩
  clear hp
  rintro i s ⟨hi, hp⟩
  refine Sm.seqW ?_
  conv => whnf
  refine Sm.live [1, 4, 15, 16, 20, 21, 22, 23, 24, 25, 86, 87, 88] ?_
  conv => whnf
  refine Sm.seq ?_
  refine Sm.ofW ?_
  conv => whnf
  refine Br.mk (fun hq => ?_) (fun hq => ?_)
  · have hq : i < (memsF a.set).length := by have : (i : Int) < ((memsF a.set).length : Int) := of_decide_eq_true hq; omega
    obtain ⟨q1, y1, e11, e12, e13, _, rfl⟩ := index_sl IL Tryd.underlying3 rfl (hp.slF (κ := κ1) (v := .slice aw (memsF a.set).length cw) (by repeat (first | exact Rm.here | apply Rm.there))) .i64 hq
    obtain rfl := natI_at hq e12
    obtain ⟨q2, y2, e21, e22, e23, _, rfl⟩ := index_sl IL Tryd.underlying3 rfl (hp.slF (κ := κ2) (v := .slice a2 (memsF a.set).length c2) (by repeat (first | exact Rm.here | apply Rm.there))) .i64 hq
    obtain rfl := natI_at hq e22
    conv => whnf
    refine Sm.seq ?_
    refine Sm.block ?_
    refine Sm.seqW ?_
    conv => whnf
    refine Sm.live [1, 4, 15, 16, 20, 21, 22, 23, 24, 25, 26, 86, 87] ?_
    conv => whnf
    refine Sm.seqW ?_
    conv => whnf
    refine ⟨[0, 0, 3, 7, 0, 0, 48, 112, 255], by decide +kernel, by decide +kernel, ?_⟩
    conv => whnf
    refine Om.of _ (e11) ?_
    conv => whnf
    refine Om.of _ (e13) ?_
    conv => whnf
    refine Om.of _ (e21) ?_
    conv => whnf
    refine Om.of _ (e23) ?_
    conv => whnf
    refine Sm.live [1, 4, 15, 16, 20, 21, 22, 23, 24, 25, 86, 87, 98] ?_
    conv => whnf
    refine Sm.ofW ?_
    conv => whnf
    repeat (first | (refine Br.yes (by first | with_reducible rfl | with_reducible exact beq_self_eq_true _ | rfl) ?_; conv => whnf) | (refine Br.no (by first | with_reducible rfl | with_reducible exact bne_self_eq_false _ | rfl) ?_; conv => whnf))
    refine Sm.ofW ?_
    conv => whnf
    exact ⟨i + 1, by (show (memsF a.set).length - (i + 1) < (memsF a.set).length - i); omega, subK_ok (by refine ⟨rfl, rfl, rfl, rfl, rfl, rfl, rfl, rfl, rfl, rfl, rfl, congrArg (fun x => some (Value.int .i64 x)) (show IntKind.i64.wrap ((i : Int) + 1) = ((i + 1 : Nat) : Int) by rw [wi64 (by omega) (by omega)]; omega), trivial⟩), by omega, hp.pik (by repeat (first | exact Pik.nil | exact Pik.refl _ | exact Rm.here | apply Rm.there | apply Pik.cons | apply Pik.skip))⟩
  · conv => whnf
    refine Sm.seqW ?_
    conv => whnf
    refine (pick_spec _ he (m := 12) (by decide) (by decide)).mono ?_
    rintro _ s1 ⟨h1, rfl⟩
    obtain rfl := h1.symm
    conv => whnf
    obtain ⟨k, ek⟩ : ∃ k, k = IntKind.i64.wrap (ent % 12 - 2) := ⟨_, rfl⟩
    rw [← ek]
    refine Sm.live [1, 4, 15, 16, 20, 21, 22, 23, 27] ?_
    conv => whnf
    refine Sm.seqW ?_
    conv => whnf
    refine ⟨[0, 1, 3, 3, 15, 31, 63, 127, 127, 511, 1023, 2047, 4095, 8191, 4095, 32767, 65535, 131071, 262143, 524287, 524287, 2097151, 524287, 524287, 16777215, 33554431, 67108863, 134217727, 268435455, 268435455, 1073741823, 268435455, 268435455, 8589934591, 17179869183, 34359738367, 68719476735, 137438953471, 137438953471, 549755813887, 137438953471, 137438953471, 4398046511103, 8796093022207, 17592186044415, 35184372088831, 70368744177663, 70368744177663, 281474976710655, 70368744177663, 70368744177663, 2251799813685247, 4503599627370495, 9007199254740991, 18014398509481983, 36028797018963967, 36028797018963967, 144115188075855871, 36028797018963967, 36028797018963967, 1152921504606846975, 2305843009213693951, 4611686018427387903, 9223372036854775807], by decide +kernel, by decide +kernel, ?_⟩
    conv => whnf
    have hE : ∀ x : Lb, lbE x x = true := fun x => lbE_iff.2 rfl
    repeat (first
      | (refine Br.yes (by first | with_reducible rfl | with_reducible exact beq_self_eq_true _ | exact hE _ | rfl) ?_; conv => whnf)
      | (refine hp.loadA (by repeat (first | exact Has.here | apply Has.there | (apply Has.swap; repeat (first | exact HasR.here | apply HasR.there)))) rfl (by rfl) rfl rfl ?_; conv => whnf)
      | (refine hp.rst.call (lknown_spec hp.rst.wf (hg.keep hp.rst.fr)) ?_; rintro _ s1 rfl h1 k1; (conv => whnf); refine hp.dkN h1 k1 ?_; clear hp h1 k1; intro s hp; conv => whnf)
      | (refine hp.rst.call (lright_spec hp.rst.wf (a := a) ha) ?_; rintro _ s1 rfl h1 k1; (conv => whnf); refine hp.dkN h1 k1 ?_; clear hp h1 k1; intro s hp; conv => whnf)
      | (refine hp.rst.call (rright_spec hp.rst.wf (a := a) ha) ?_; rintro _ s1 rfl h1 k1; (conv => whnf); refine hp.dkN h1 k1 ?_; clear hp h1 k1; intro s hp; conv => whnf)
      | (refine hp.rst.call (below_spec hp.rst.wf (a := a) (b := b) ha hbk) ?_; rintro _ s1 rfl h1 k1; (conv => whnf); refine hp.dkN h1 k1 ?_; clear hp h1 k1; intro s hp; conv => whnf)
      | (refine hp.rst.call (rbelow_spec hp.rst.wf (a := a) (b := b) ha hbk) ?_; rintro _ s1 rfl h1 k1; (conv => whnf); refine hp.dkN h1 k1 ?_; clear hp h1 k1; intro s hp; conv => whnf)
      | (refine hp.rst.call (join_spec hp.rst.wf (a := a) (b := b) ha hbk) ?_; rintro _ s1 rfl h1 k1; (conv => whnf); refine hp.dkN h1 k1 ?_; clear hp h1 k1; intro s hp; conv => whnf)
      | (refine hp.rst.call (rjoin_spec hp.rst.wf (a := a) (b := b) ha hbk) ?_; rintro _ s1 rfl h1 k1; (conv => whnf); refine hp.dkN h1 k1 ?_; clear hp h1 k1; intro s hp; conv => whnf)
      | (refine hp.rst.call (meet_spec hp.rst.wf (a := a) (b := b) ha hbk) ?_; rintro _ s1 rfl h1 k1; (conv => whnf); refine hp.dkN h1 k1 ?_; clear hp h1 k1; intro s hp; conv => whnf)
      | (refine hp.rst.call (rmeet_spec hp.rst.wf (a := a) (b := b) ha hbk) ?_; rintro _ s1 rfl h1 k1; (conv => whnf); refine hp.dkN h1 k1 ?_; clear hp h1 k1; intro s hp; conv => whnf)
      | (refine hp.rst.call (of_spec hp.rst.wf k level) ?_; rintro _ s1 rfl h1 k1; (conv => whnf); refine hp.dkN h1 k1 ?_; clear hp h1 k1; intro s hp; conv => whnf)
      | (refine hp.rst.call (lrof_spec hp.rst.wf k level) ?_; rintro _ s1 rfl h1 k1; (conv => whnf); refine hp.dkN h1 k1 ?_; clear hp h1 k1; intro s hp; conv => whnf)
      | (refine hp.rst.call (of_spec hp.rst.wf ent k) ?_; rintro _ s1 rfl h1 k1; (conv => whnf); refine hp.dkN h1 k1 ?_; clear hp h1 k1; intro s hp; conv => whnf)
      | (refine hp.rst.call (lrof_spec hp.rst.wf ent k) ?_; rintro _ s1 rfl h1 k1; (conv => whnf); refine hp.dkN h1 k1 ?_; clear hp h1 k1; intro s hp; conv => whnf)
      | (refine Om.of _ (lb_eq (lreadF U).1 (lreadF U).1 _) ?_; conv => whnf)
      | (refine Om.of _ (lb_eq (joinF a b) (joinF a b) _) ?_; conv => whnf)
      | (refine Om.of _ (lb_eq (meetF a b) (meetF a b) _) ?_; conv => whnf)
      | (refine Om.of _ (lb_eq (ofF k level) (ofF k level) _) ?_; conv => whnf)
      | (refine Om.of _ (lb_eq (ofF ent k) (ofF ent k) _) ?_; conv => whnf)
      | (refine Om.of _ (lbool_eq Tryd.underlying4 _ _ _) ?_; conv => whnf))
    refine Sm.ofW ?_
    conv => whnf
    exact ⟨congrArg Value.bool (by first | rfl | exact hE _)⟩
end Go.Ev
end
