/- Several texts in one: what the law's text leans on, one behind the other. No condition but those that each theorem names. -/
import Derived.Test.YtknhjdkjjfijlaaGreatDoorGEntryKnown2
/- Texts that are cut at a byte, and put together again, without a program. No condition. -/
noncomputable section
namespace Go.Ev
open Go.Proofs
variable [Lk]
set_option linter.unusedSectionVars false
set_option linter.unusedVariables false
set_option maxRecDepth 100000

/-- A text, cut at every byte of a kind. -/
def splitL (c : UInt8) : List UInt8 → List (List UInt8)
  | [] => [[]]
  | x :: xs => if x = c then [] :: splitL c xs else (x :: (splitL c xs).headD []) :: (splitL c xs).tail
/-- Texts, with a byte between. -/
def joinL (c : UInt8) : List (List UInt8) → List UInt8
  | [] => []
  | x :: r => x ++ r.flatMap fun w => c :: w
theorem splitL_ne (c : UInt8) : ∀ l, splitL c l ≠ []
  | [] => by simp [splitL]
  | x :: xs => by unfold splitL; split <;> simp
theorem splitL_cons {c x : UInt8} {xs : List UInt8} (h : x ≠ c) {w : List UInt8} {r : List (List UInt8)} (hs : splitL c xs = w :: r) : splitL c (x :: xs) = (x :: w) :: r := by
  rw [splitL, if_neg h, hs]; rfl
theorem splitL_hd {c : UInt8} {xs : List UInt8} : splitL c (c :: xs) = [] :: splitL c xs := by
  rw [splitL, if_pos rfl]
theorem beq_toNat (x c : UInt8) : Nat.beq x.toNat c.toNat = decide (x = c) := by
  by_cases h : x = c
  · subst h; rw [Nat.beq_refl, decide_eq_true rfl]
  · rw [decide_eq_false h]
    cases hb : Nat.beq x.toNat c.toNat with
    | false => rfl
    | true => exact absurd (UInt8.toNat_inj.1 (Nat.eq_of_beq_eq_true hb)) h
theorem idxL_sh (c : Nat) : ∀ (l : List UInt8) (i : Nat), idxL c l i = (idxL c l 0).map (· + i)
  | [], i => rfl
  | x :: xs, i => by
    unfold idxL
    cases Nat.beq x.toNat c with
    | true => simp
    | false =>
      show idxL c xs (i + 1) = (idxL c xs (0 + 1)).map (· + i)
      rw [idxL_sh c xs (i + 1), idxL_sh c xs (0 + 1), Option.map_map]
      congr 1
      funext a; simp only [Function.comp]; omega
theorem cntL_shift (c : Nat) : ∀ (l : List UInt8) (n : Nat), cntL c l n = cntL c l 0 + n
  | [], n => by simp [cntL]
  | x :: xs, n => by
    unfold cntL
    cases Nat.beq x.toNat c with
    | true =>
      show cntL c xs (n + 1) = cntL c xs (0 + 1) + n
      rw [cntL_shift c xs (n + 1), cntL_shift c xs (0 + 1)]; omega
    | false => exact cntL_shift c xs n
theorem split_idx (c : UInt8) : ∀ l : List UInt8, splitL c l = match idxL c.toNat l 0 with
    | some i => l.take i :: splitL c (l.drop (i + 1))
    | none => [l]
  | [] => rfl
  | x :: xs => by
    have ih := split_idx c xs
    unfold idxL
    rw [beq_toNat]
    by_cases h : x = c
    · subst h
      rw [decide_eq_true rfl, splitL_hd]; rfl
    · rw [decide_eq_false h]
      show _ = (match idxL c.toNat xs (0 + 1) with
        | some i => (x :: xs).take i :: splitL c ((x :: xs).drop (i + 1))
        | none => [x :: xs])
      rw [idxL_sh]
      cases hi : idxL c.toNat xs 0 with
      | none =>
        rw [hi] at ih
        exact splitL_cons h ih
      | some i =>
        rw [hi] at ih
        rw [splitL_cons h ih]
        rfl
theorem split_some {c : UInt8} {l : List UInt8} {i : Nat} (h : idxL c.toNat l 0 = some i) : splitL c l = l.take i :: splitL c (l.drop (i + 1)) := by
  rw [split_idx, h]
theorem split_none {c : UInt8} {l : List UInt8} (h : idxL c.toNat l 0 = none) : splitL c l = [l] := by
  rw [split_idx, h]
theorem split_cnt (c : UInt8) : ∀ l : List UInt8, (splitL c l).length = cntL c.toNat l 0 + 1
  | [] => rfl
  | x :: xs => by
    have ih := split_cnt c xs
    unfold cntL
    rw [beq_toNat]
    by_cases h : x = c
    · subst h
      rw [decide_eq_true rfl, splitL_hd, List.length_cons, ih]
      show _ = cntL _ xs (0 + 1) + 1
      rw [cntL_shift _ xs (0 + 1)]
    · rw [decide_eq_false h]
      cases hs : splitL c xs with
      | nil => exact absurd hs (splitL_ne c xs)
      | cons w r =>
        rw [splitL_cons h hs]
        rw [hs] at ih
        exact ih
theorem cntL_le (c : Nat) : ∀ l : List UInt8, cntL c l 0 ≤ l.length
  | [] => by simp [cntL]
  | x :: xs => by
    have := cntL_le c xs
    unfold cntL
    cases Nat.beq x.toNat c with
    | true => show cntL c xs (0 + 1) ≤ _; rw [cntL_shift c xs (0 + 1)]; simp only [List.length_cons]; omega
    | false => simp only [List.length_cons]; omega
theorem mem_split_len {c : UInt8} : ∀ {l w : List UInt8}, w ∈ splitL c l → w.length ≤ l.length
  | [], w, h => by simp [splitL] at h; subst h; simp
  | x :: xs, w, h => by
    by_cases hx : x = c
    · subst hx; rw [splitL_hd] at h
      rcases List.mem_cons.1 h with rfl | h
      · simp
      · have := mem_split_len h; simp only [List.length_cons]; omega
    · cases hs : splitL c xs with
      | nil => exact absurd hs (splitL_ne c xs)
      | cons v r =>
        rw [splitL_cons hx hs] at h
        rcases List.mem_cons.1 h with rfl | h
        · have := mem_split_len (c := c) (l := xs) (w := v) (by rw [hs]; simp); simp only [List.length_cons]; omega
        · have := mem_split_len (c := c) (l := xs) (w := w) (by rw [hs]; simp [h]); simp only [List.length_cons]; omega
end Go.Ev
end

/- Lines of an entry as text, without a program: the program's way, and the document's, to read one. No condition. -/
noncomputable section
namespace Go.Ev
open Go.Proofs
variable [Lk]
set_option linter.unusedSectionVars false
set_option linter.unusedVariables false
set_option maxRecDepth 100000

/-- What a text is read as: a decimal, an error. -/
def readD (l : List UInt8) : Dc × Int :=
  if readOk (bodyF l) = false then (Dc.zero, 2) else if 10 ^ 30 ≤ valD (wholeF (bodyF l) ++ restF (bodyF l)) then (Dc.zero, 3)
  else if (hasP l [45] && decide (valD (wholeF (bodyF l) ++ restF (bodyF l)) = 0)) = true then (Dc.zero, 2) else (⟨hasP l [45], valD (wholeF (bodyF l) ++ restF (bodyF l)), (restF (bodyF l)).length⟩, 0)
/-- A line of an entry. -/
structure Ln where
  acct : Int
  amt : Dc
  wth : Int
def Ln.zero : Ln := ⟨0, Dc.zero, 0⟩
/-- A text, cut at the first byte of a kind. -/
def cut1 (c : UInt8) (l : List UInt8) : List UInt8 := match idxL c.toNat l 0 with
  | some i => l.take i
  | none => l
def cut2 (c : UInt8) (l : List UInt8) : List UInt8 := match idxL c.toNat l 0 with
  | some i => l.drop (i + 1)
  | none => []
def cutQ (c : UInt8) (l : List UInt8) : Bool := (idxL c.toNat l 0).isSome
/-- A number of one or two digits, or -1. -/
def smallF (l : List UInt8) : Int := match (List.range 100).find? fun k => l == itoaF k with
  | some k => (k : Int)
  | none => -1
def lessN (l : List UInt8) : Bool := match bodyF l with
  | a :: b :: _ => a == 48 && !(b == 46)
  | _ => false
/-- One line of a text: the program's way. -/
def oneF (t : List UInt8) : Ln × Int :=
  let rest := cut2 58 t
  if (!cutQ 58 t || (decide (smallF (cut1 58 t) < 0) || (cutQ 64 rest && decide (smallF (cut2 64 rest) < 0)))) = true then (Ln.zero, 2) else
  let d := readD (cut1 64 rest)
  if ((d.2 == 0 && !(printF d.1 == cut1 64 rest)) || lessN (cut1 64 rest)) = true then (Ln.zero, 2) else
  (⟨smallF (cut1 58 t), d.1, if cutQ 64 rest = true then smallF (cut2 64 rest) else -1⟩, d.2)
/-- Lines, one behind the other: the program's way. -/
def readL (s : List UInt8) : List Ln × Int :=
  if 8 < (splitL 44 s).length then ([], 2) else
  if ((splitL 44 s).any fun t => (oneF t).2 == 2) = true then ([], 2) else
  if ((splitL 44 s).any fun t => !((oneF t).2 == 0)) = true then ([], 3) else ((splitL 44 s).map fun t => (oneF t).1, 0)
theorem readD_e (l : List UInt8) : (readD l).2 = 0 ∨ (readD l).2 = 2 ∨ (readD l).2 = 3 := by
  unfold readD
  split
  · simp
  · split
    · simp
    · split <;> simp
theorem oneF_e (l : List UInt8) : (oneF l).2 = 0 ∨ (oneF l).2 = 2 ∨ (oneF l).2 = 3 := by
  unfold oneF
  simp only
  split
  · simp
  · split
    · simp
    · exact readD_e _
theorem smallF_ok {l : List UInt8} (h : ¬ smallF l < 0) : ∃ k, k < 100 ∧ l = itoaF k ∧ smallF l = (k : Int) := by
  unfold smallF at h ⊢
  cases hf : (List.range 100).find? fun k => l == itoaF k with
  | none => rw [hf] at h; exact absurd (by decide) h
  | some k =>
    have h1 := List.find?_some hf
    have h2 := List.mem_of_find?_eq_some hf
    exact ⟨k, List.mem_range.1 h2, beq_iff_eq.1 h1, rfl⟩
theorem smallF_no {l : List UInt8} (h : smallF l < 0) : ∀ k, k < 100 → l ≠ itoaF k := by
  unfold smallF at h
  cases hf : (List.range 100).find? fun k => l == itoaF k with
  | some k => rw [hf] at h; exact absurd h (by simp only; omega)
  | none =>
    intro k hk e
    have := List.find?_eq_none.1 hf k (List.mem_range.2 hk)
    rw [e] at this; simp at this
theorem readF_D (l : List UInt8) : readF l = .tuple #[(readD l).1.val, .int .i64 (readD l).2] := by
  unfold readF readD
  split
  · rfl
  · split
    · rfl
    · split <;> rfl
end Go.Ev
end

/- A line of a text: the program's way and the document's are the same, without a program. No condition. -/
noncomputable section
namespace Go.Ev
open Go.Proofs
variable [Lk]
set_option linter.unusedSectionVars false
set_option linter.unusedVariables false
set_option maxRecDepth 100000

end Go.Ev
end

/- Lines that are right, without a program. No condition. -/
noncomputable section
namespace Go.Ev
open Go.Proofs
variable [Lk]
set_option linter.unusedSectionVars false
set_option linter.unusedVariables false
set_option maxRecDepth 100000

def mkP (x : Int) (S : Int) : Dc × Int := if x.natAbs < 10 ^ 30 then (⟨decide (x < 0) && !decide (x.natAbs = 0), x.natAbs, S⟩, 0) else (Dc.zero, 3)
/-- A sum: a decimal, an error. -/
def addD (a b : Dc) : Dc × Int := if a.right = false ∨ b.right = false then (Dc.zero, 1) else mkP (up a (max a.scale b.scale) + up b (max a.scale b.scale)) (max a.scale b.scale)
def isWithF (a : Int) : Bool := a == 3 || a == 6
/-- May a line be? -/
def rightLn (x : Ln) (sc : Int) : Bool := decide (0 ≤ x.acct ∧ x.acct < 16) && (!(signF x.amt == 0) && (x.amt.scale == sc && (if isWithF x.acct = true then decide (0 ≤ x.wth ∧ x.wth < 8) else x.wth == -1)))
/-- Amounts, added one by one. -/
def sumL : Dc → List Ln → Dc × Int
  | s, [] => (s, 0)
  | s, x :: r => if (addD s x.amt).2 ≠ 0 then ((addD s x.amt).1, (addD s x.amt).2) else sumL (addD s x.amt).1 r
def zeroD (sc : Int) : Dc := ⟨false, 0, sc⟩
def tailE (s : Dc × Int) : Int := if s.2 ≠ 0 then s.2 else if signF s.1 ≠ 0 then 9 else 0
def rightLF (ls : List Ln) (sc : Int) : Int := if ls = [] ∨ 8 < ls.length then 1 else if (ls.all fun x => rightLn x sc) = false then 1 else tailE (sumL (zeroD sc) ls)
theorem Dc.right_iff {d : Dc} : d.right = true ↔ d.c < 10 ^ 30 ∧ 0 ≤ d.scale ∧ d.scale ≤ 9 ∧ (d.neg = true → d.c ≠ 0) := by
  unfold Dc.right
  simp only [Bool.and_eq_true, decide_eq_true_eq, Bool.not_eq_true', Bool.and_eq_false_iff, decide_eq_false_iff_not]
  constructor
  · rintro ⟨h1, h2, h3, h4⟩
    refine ⟨h1, h2, h3, fun g e => ?_⟩
    rcases h4 with h4 | h4
    · rw [g] at h4; cases h4
    · exact h4 e
  · rintro ⟨h1, h2, h3, h4⟩
    refine ⟨h1, h2, h3, ?_⟩
    cases hn : d.neg with
    | false => exact .inl rfl
    | true => exact .inr (h4 hn)
theorem sign_rt {d : Dc} (h : signF d ≠ 0) : d.right = true ∧ d.c ≠ 0 := by
  unfold signF at h
  split at h
  · exact absurd rfl h
  · rename_i g
    simp only [not_or] at g
    exact ⟨by simpa using g.1, g.2⟩
theorem addF_D (a b : Dc) : addF a b = .tuple #[(addD a b).1.val, .int .i64 (addD a b).2] := by
  unfold addF addD
  split
  · rfl
  · unfold mkI dmade mkP
    split <;> rfl
end Go.Ev
end

/- Raw numbers as lines that come to nothing, without a program. No condition. -/
noncomputable section
namespace Go.Ev
open Go.Proofs
variable [Lk]
set_option linter.unusedSectionVars false
set_option linter.unusedVariables false
set_option maxRecDepth 100000

/-! ### turned about -/
def turnL (x : Ln) : Ln := ⟨x.acct, negF x.amt, x.wth⟩
end Go.Ev
end

/- Lines of an entry as text, without a program: what is printed is read the same. No condition. -/
noncomputable section
namespace Go.Ev
open Go.Proofs
variable [Lk]
set_option linter.unusedSectionVars false
set_option linter.unusedVariables false
set_option maxRecDepth 100000

theorem print_nil {d : Dc} : printF d = [] ↔ d.right = false := by
  constructor
  · intro h
    cases hr : d.right with
    | false => rfl
    | true =>
      obtain ⟨W, R, pt, h0, _, _, _, _, _, _, _, e⟩ := print_parts hr
      rw [e] at h
      unfold txt at h
      simp at h
      exact absurd h.2.1 h0
  · intro h
    unfold printF
    rw [if_pos h]
/-- A line as text. -/
def lineT (x : Ln) : List UInt8 := itoaF x.acct.toNat ++ 58 :: (printF x.amt ++ (if 0 ≤ x.wth then 64 :: itoaF x.wth.toNat else []))
def badLn (x : Ln) : Bool := decide (x.acct < 0) || (decide (x.wth < -1) || printF x.amt == [])
/-- Lines as text. -/
def printL (ls : List Ln) : List UInt8 := if ls.any badLn = true then [] else joinL 44 (ls.map lineT)
end Go.Ev
end

/- strings.Split at a byte, walked. No condition. -/
noncomputable section
namespace Go.Ev
open Go.Proofs
variable [Lk]
set_option linter.unusedSectionVars false
set_option linter.unusedVariables false
set_option maxRecDepth 100000

theorem SG : SlT Tryz.prog 95 9 1 16 (.string ⟨#[]⟩) := ⟨Tryz.underlying95, ⟨_, rfl, rfl, rfl, rfl⟩, rfl, rfl, by decide, by decide⟩
theorem cnt_ext (s : St) (l : List UInt8) (c : UInt8) : Cw Tryz.prog 144 [sv l, .int .u8 ((c.toNat : Nat) : Int)] s fun r s' => s' = s ∧ r = .int .i64 ((cntL c.toNat l 0 : Nat) : Int) := by
  refine ⟨⟨_, s, ⟨rfl, rfl⟩, .inr (.inl ⟨rfl, _, Tryz.func144, rfl, ?_⟩)⟩⟩
  have hc : Nat.blt c.toNat 256 = true := blt_of c.toNat_lt
  have : evExt "internal/bytealg.CountString" [sv l, .int .u8 ((c.toNat : Nat) : Int)] = some (.int .i64 ((cntL c.toNat l 0 : Nat) : Int)) := by
    unfold evExt
    rw [show ("internal/bytealg.CountString" == "internal/bytealg.IndexByteString") = false from by decide +kernel, show ("internal/bytealg.CountString" == "internal/bytealg.CountString") = true from rfl]
    show (match Nat.blt c.toNat 256 with
      | true => some (Value.int .i64 (.ofNat (cntL c.toNat (bs ⟨l.toArray⟩) 0)))
      | false => none) = _
    rw [hc, bs_mk]
    rfl
  exact this
theorem count_spec (s : St) (l : List UInt8) (c : UInt8) : Cw Tryz.prog 127 [sv l, sv [c]] s fun r s' => s' = s ∧ r = .int .i64 ((cntL c.toNat l 0 : Nat) : Int) := by
  refine Cw.enterS Tryz.func127 rfl rfl ?_
  refine Sm.seqW ?_
  conv => whnf
  refine Sm.live [0, 1] ?_
  conv => whnf
  refine Sm.seq ?_
  refine Sm.seqW ?_
  conv => whnf
  refine Sm.ofW ?_
  conv => whnf
  repeat (first | (refine Br.yes (by first | with_reducible rfl | with_reducible exact beq_self_eq_true _ | rfl) ?_; conv => whnf) | (refine Br.no (by first | with_reducible rfl | with_reducible exact bne_self_eq_false _ | rfl) ?_; conv => whnf))
  refine Sm.seq ?_
  refine Sm.seqW ?_
  conv => whnf
  refine Sm.ofW ?_
  conv => whnf
  repeat (first | (refine Br.yes (by first | with_reducible rfl | with_reducible exact beq_self_eq_true _ | rfl) ?_; conv => whnf) | (refine Br.no (by first | with_reducible rfl | with_reducible exact bne_self_eq_false _ | rfl) ?_; conv => whnf))
  refine Om.of _ (str_index Tryz.underlying9 (l := [c]) (i := 0) (by simp) .i64) ?_
  conv => whnf
  refine (cnt_ext _ l c).mono ?_
  rintro _ s1 ⟨h1, rfl⟩
  obtain rfl := h1.symm
  conv => whnf
  exact ⟨rfl, rfl⟩
theorem sindex_spec (s : St) (l : List UInt8) (c : UInt8) : Cw Tryz.prog 121 [sv l, sv [c]] s fun r s' => s' = s ∧ r = .int .i64 (ixI (idxL c.toNat l 0)) := by
  refine Cw.enterS Tryz.func121 rfl rfl ?_
  refine Sm.seqW ?_
  conv => whnf
  refine Sm.seqW ?_
  conv => whnf
  refine (index1_spec _ l c).mono ?_
  rintro _ s1 ⟨h1, rfl⟩
  obtain rfl := h1.symm
  conv => whnf
  refine Sm.ofW ?_
  conv => whnf
  exact ⟨rfl, rfl⟩
theorem map_set_at {α β : Type} (f : α → β) (a : List α) (x y : α) (b : List β) : (a.map f ++ f x :: b).set a.length (f y) = (a ++ [y]).map f ++ b := by
  rw [List.set_append_right _ _ (by simp), List.length_map, Nat.sub_self]
  simp
theorem Hp.blkO {X : Nat → Prop} {s0 s : St} {R F G : List At} {k b e n : Nat} {C : List Value} (h : Hp X s0 R F s) (r : Rm (blkA k b C e) F G) (hl : C.length = n * e) : Hp X s0 R (onA (some k) (.slice (some ⟨b, 0, none⟩) n n) e n C :: G) s :=
  h.as r (fun hb => ⟨.inr ⟨k, rfl, b, rfl, hb, hl⟩⟩) fun j hj => by (injection hj with hj; exact hj.symm)
theorem gsplit_spec {z : St} (wf : WF z) (l : List UInt8) (hl : l.length ≤ 10000000000000) (c : UInt8) :
    Cw Tryz.prog 100 [sv l, sv [c], .int .i64 0, .int .i64 (-1)] z fun r s' => K0 z s' ∧ OwnN z.next s' r 1 (splitL c l).length ((splitL c l).map sv) := by
  have hp : Hp (fun _ => False) z [] [] z := Hp.start _ wf _ (by simp)
  refine Cw.enterS Tryz.func100 rfl rfl ?_
  refine Sm.seqW ?_
  conv => whnf
  refine Sm.live [0, 1, 2, 3] ?_
  conv => whnf
  refine Sm.seq ?_
  refine Sm.seqW ?_
  conv => whnf
  refine Sm.ofW ?_
  conv => whnf
  repeat (first | (refine Br.yes (by first | with_reducible rfl | with_reducible exact beq_self_eq_true _ | rfl) ?_; conv => whnf) | (refine Br.no (by first | with_reducible rfl | with_reducible exact bne_self_eq_false _ | rfl) ?_; conv => whnf))
  refine Sm.seq ?_
  refine Sm.seqW ?_
  conv => whnf
  refine Om.of _ (sv_eq [c] []) ?_
  conv => whnf
  refine Sm.ofW ?_
  conv => whnf
  repeat (first | (refine Br.yes (by first | with_reducible rfl | with_reducible exact beq_self_eq_true _ | rfl) ?_; conv => whnf) | (refine Br.no (by first | with_reducible rfl | with_reducible exact bne_self_eq_false _ | rfl) ?_; conv => whnf))
  refine Sm.seq ?_
  refine Sm.seqW ?_
  conv => whnf
  refine Sm.ofW ?_
  conv => whnf
  repeat (first | (refine Br.yes (by first | with_reducible rfl | with_reducible exact beq_self_eq_true _ | rfl) ?_; conv => whnf) | (refine Br.no (by first | with_reducible rfl | with_reducible exact bne_self_eq_false _ | rfl) ?_; conv => whnf))
  refine (count_spec _ l c).mono ?_
  rintro _ s1 ⟨h1, rfl⟩
  obtain rfl := h1.symm
  conv => whnf
  have hcl := cntL_le c.toNat l
  obtain ⟨N, hN⟩ : ∃ N, cntL c.toNat l 0 = N := ⟨_, rfl⟩
  have hsl : (splitL c l).length = N + 1 := by rw [split_cnt, hN]
  rw [hN] at hcl ⊢
  have e1 : IntKind.i64.wrap ((N : Int) + 1) = ((N + 1 : Nat) : Int) := by rw [wi64 (by omega) (by omega)]; omega
  rw [e1]
  refine Sm.seqW ?_
  conv => whnf
  refine Sm.live [0, 1, 2, 3] ?_
  conv => whnf
  have e2 : IntKind.i64.wrap (((bs ⟨l.toArray⟩).length : Int) + 1) = ((l.length + 1 : Nat) : Int) := by
    show IntKind.i64.wrap ((l.length : Int) + 1) = _
    rw [wi64 (by omega) (by omega)]; omega
  refine Sm.seqW ?_
  conv => whnf
  rw [e2]
  have hlt : ¬ (((l.length + 1 : Nat) : Int) < ((N + 1 : Nat) : Int)) := by omega
  simp only [hlt, if_false]
  refine hp.mks SG rfl (N + 1) rfl rfl (by omega) ?_
  clear hp
  intro b s hp _
  conv => whnf
  refine Sm.live [0, 1, 2, 3, 9] ?_
  conv => whnf
  have e3 : IntKind.i64.wrap (((N + 1 : Nat) : Int) - 1) = (N : Int) := by rw [wi64 (by omega) (by omega)]; omega
  refine Sm.seqW ?_
  conv => whnf
  rw [e3]
  refine Sm.live [0, 1, 2, 3, 9] ?_
  conv => whnf
  refine Sm.seqW ?_
  conv => whnf
  refine Sm.live [0, 1, 2, 3, 9, 10] ?_
  conv => whnf
  refine Sm.seq ?_
  refine Sm.block ?_
  refine Sm.loop ?_
  refine Lp.ofS (α := List (List UInt8) × List UInt8) (fun x => [(0, sv x.2), (1, sv [c]), (2, .int .i64 0), (3, .int .i64 (N : Int)), (9, .slice (some ⟨b, 0, none⟩) (N + 1) (N + 1)), (10, .int .i64 (x.1.length : Int))])
    (fun x s' => splitL c l = x.1 ++ splitL c x.2 ∧ x.2.length ≤ l.length ∧ Hp (fun _ => False) z [] [blkA b b (x.1.map sv ++ List.replicate (N + 1 - x.1.length) (sv [])) 1] s') (fun x => N + 1 - x.1.length) ?_ ([], l) (subK_ok (by refine ⟨rfl, rfl, rfl, rfl, rfl, rfl, trivial⟩)) ⟨rfl, Nat.le_refl _, hp.pik (by repeat (first | exact Pik.nil | exact Pik.refl _ | exact Rm.here | apply Rm.there | apply Pik.cons | apply Pik.skip))⟩
  clear hp
  rintro ⟨done, r⟩ s ⟨hd, hr, hp⟩
  simp only at hd hr hp
  have hlen : N + 1 = done.length + (splitL c r).length := by rw [← hsl, hd, List.length_append]
  have hpos : 0 < (splitL c r).length := List.length_pos_iff.2 (splitL_ne c r)
  obtain ⟨m, hm⟩ : ∃ m, N + 1 - done.length = m + 1 := ⟨N - done.length, by omega⟩
  have hrep : List.replicate (N + 1 - done.length) (sv []) = sv [] :: List.replicate m (sv []) := by rw [hm, List.replicate_succ]
  have hput : ∀ w : List UInt8, (done.map sv ++ List.replicate (N + 1 - done.length) (sv [])).set done.length (sv w) = (done ++ [w]).map sv ++ List.replicate m (sv []) := fun w => by
    rw [hrep]; exact map_set_at sv done [] w _
  have hix := idx_at (P := Tryz.prog) SG (b := b) (off := 0) (c := N + 1) (n := N + 1) .i64 (show done.length < N + 1 by omega)
  rw [Nat.zero_add, Nat.mul_one] at hix
  refine Sm.seq ?_
  refine Sm.seqW ?_
  conv => whnf
  refine Sm.live [0, 1, 2, 3, 9, 10, 36] ?_
  conv => whnf
  refine Sm.ofW ?_
  conv => whnf
  refine Br.mk (fun hc => ?_) (fun hc => ?_)
  · have hc : done.length < N := by have : (done.length : Int) < (N : Int) := of_decide_eq_true hc; omega
    conv => whnf
    refine Sm.block ?_
    refine Sm.seqW ?_
    conv => whnf
    refine (sindex_spec _ r c).mono ?_
    rintro _ s1 ⟨h1, rfl⟩
    obtain rfl := h1.symm
    conv => whnf
    refine Sm.live [0, 1, 2, 3, 9, 10, 11] ?_
    conv => whnf
    refine Sm.seq ?_
    refine Sm.seqW ?_
    conv => whnf
    cases hi : idxL c.toNat r 0 with
    | none =>
      rw [split_none hi] at hlen
      simp only [List.length_singleton] at hlen
      omega
    | some i =>
      have hik : i < r.length := by
        obtain ⟨k, hk1, hk2, _⟩ := idxL_some hi
        omega
      have hs := split_some hi
      have e4 : IntKind.i64.wrap (ixI (some i) + 0) = (i : Int) := by show IntKind.i64.wrap ((i : Int) + 0) = _; rw [wi64 (by omega) (by omega)]; omega
      have e5 : IntKind.i64.wrap (ixI (some i) + ((bs ⟨#[c]⟩).length : Int)) = ((i + 1 : Nat) : Int) := by show IntKind.i64.wrap ((i : Int) + 1) = _; rw [wi64 (by omega) (by omega)]; omega
      have e6 : IntKind.i64.wrap ((done.length : Int) + 1) = (((done ++ [r.take i]).length : Nat) : Int) := by rw [wi64 (by omega) (by omega)]; simp
      refine Sm.ofW ?_
      conv => whnf
      refine Br.no (decide_eq_false (by show ¬ (i : Int) < 0; omega)) ?_
      conv => whnf
      refine Sm.seqW ?_
      conv => whnf
      rw [e4]
      refine Om.of _ (str_take Tryz.underlying9 (l := r) (j := i) .i64 (by omega)) ?_
      conv => whnf
      refine Om.of _ (hix) ?_
      conv => whnf
      refine hp.store (by repeat (first | exact Rm.here | apply Rm.there)) (by simp; omega) rfl rfl rfl rfl ?_
      clear hp
      intro s hp _
      rw [hput] at hp
      conv => whnf
      refine Sm.live [0, 1, 2, 3, 9, 10, 11] ?_
      conv => whnf
      refine Sm.seqW ?_
      conv => whnf
      rw [e5]
      refine Om.of _ (str_drop Tryz.underlying9 (l := r) (j := i + 1) .i64 (by omega)) ?_
      conv => whnf
      refine Sm.live [0, 1, 2, 3, 9, 10] ?_
      conv => whnf
      refine Sm.ofW ?_
      conv => whnf
      exact ⟨(done ++ [r.take i], r.drop (i + 1)), by (show N + 1 - (done ++ [r.take i]).length < N + 1 - done.length); simp; omega, subK_ok (by refine ⟨rfl, rfl, rfl, rfl, rfl, congrArg (fun x => some (Value.int .i64 x)) e6, trivial⟩), by (rw [hd, hs]; simp), by (show (r.drop (i + 1)).length ≤ l.length); simp; omega, by
        have : N + 1 - (done ++ [r.take i]).length = m := by simp; omega
        rw [this]; exact hp.pik (by repeat (first | exact Pik.nil | exact Pik.refl _ | exact Rm.here | apply Rm.there | apply Pik.cons | apply Pik.skip))⟩
  · have hc : ¬ done.length < N := by have : ¬ (done.length : Int) < (N : Int) := of_decide_eq_false hc; omega
    have h1 : (splitL c r).length = 1 := by omega
    have hdn : done.length = N := by omega
    have hr1 : splitL c r = [r] := by
      cases hi : idxL c.toNat r 0 with
      | none => exact split_none hi
      | some i =>
        rw [split_some hi] at h1
        simp only [List.length_cons] at h1
        exact absurd (List.length_eq_zero_iff.1 (show (splitL c (r.drop (i + 1))).length = 0 by omega)) (splitL_ne _ _)
    obtain rfl : m = 0 := by omega
    have e6 : IntKind.i64.wrap ((done.length : Int) + 1) = ((N + 1 : Nat) : Int) := by rw [wi64 (by omega) (by omega)]; omega
    conv => whnf
    refine Sm.seqW ?_
    conv => whnf
    refine Om.of _ (hix) ?_
    conv => whnf
    refine hp.store (by repeat (first | exact Rm.here | apply Rm.there)) (by simp; omega) rfl rfl rfl rfl ?_
    clear hp
    intro s hp _
    rw [hput] at hp
    have hlC : ((done ++ [r]).map sv ++ List.replicate 0 (sv [])) = (splitL c l).map sv := by rw [hd, hr1]; simp
    rw [hlC] at hp
    have hsub : Sl s (some b) (.slice (some ⟨b, 0, none⟩) (N + 1) (N + 1)) 1 (N + 1) ((splitL c l).map sv) := hp.blkSl (by repeat (first | exact Has.here | apply Has.there | (apply Has.swap; repeat (first | exact HasR.here | apply HasR.there)))) (by rw [List.length_map, hsl]; omega)
    conv => whnf
    refine Sm.live [9, 10] ?_
    conv => whnf
    refine Sm.seqW ?_
    conv => whnf
    rw [e6]
    have hcut : evSliceMem Tryz.prog 95 (.slice (some ⟨b, 0, none⟩) (N + 1) (N + 1)) none (some (.int .i64 ((N + 1 : Nat) : Int))) none s = some (.slice (some ⟨b, 0, none⟩) (N + 1) (N + 1)) := by
      have hb : bnds (N + 1) (N + 1) none (some (.int .i64 ((N + 1 : Nat) : Int))) none = some (0, N + 1, N + 1) := by
        unfold bnds
        simp only [bnd_nat (Nat.le_refl (N + 1))]
      obtain ⟨i, hi1, hi2, hi3, hi4⟩ := SG.hi
      have hbk : Blk s b b ((splitL c l).map sv) 1 := hp.blk (by repeat (first | exact Has.here | apply Has.there | (apply Has.swap; repeat (first | exact HasR.here | apply HasR.there))))
      unfold evSliceMem
      rw [SG.hu]
      simp only [hi1, hbk.esz, hi2, Nat.beq_refl, hb]
      simp
    refine Om.of _ (hcut) ?_
    conv => whnf
    refine Sm.live [8] ?_
    conv => whnf
    refine Sm.ofW ?_
    conv => whnf
    refine ⟨hp.fr, ?_⟩
    have h9 := hp.blkO (n := N + 1) (by repeat (first | exact Rm.here | apply Rm.there)) (by rw [List.length_map, hsl]; omega)
    rw [hsl]
    exact h9.out (by repeat (first | exact Rm.here | apply Rm.there))
theorem split_spec {z : St} (wf : WF z) (l : List UInt8) (hl : l.length ≤ 10000000000000) (c : UInt8) :
    Cw Tryz.prog 58 [sv l, sv [c]] z fun r s' => K0 z s' ∧ OwnN z.next s' r 1 (splitL c l).length ((splitL c l).map sv) := by
  refine Cw.enterS Tryz.func58 rfl rfl ?_
  refine Sm.seqW ?_
  conv => whnf
  refine Sm.seqW ?_
  conv => whnf
  refine (gsplit_spec wf l hl c).mono ?_
  rintro r s' ⟨h1, h2⟩
  obtain ⟨a, n, rfl⟩ := h2.shape
  conv => whnf
  refine Sm.ofW ?_
  conv => whnf
  exact ⟨h1, h2⟩
end Go.Ev
end

/- Buffers with room: what is written where there is room, and the text that comes of it. No condition. -/
noncomputable section
namespace Go.Ev
open Go.Proofs
variable [Lk]
set_option linter.unusedSectionVars false
set_option linter.unusedVariables false
set_option maxRecDepth 100000

section
variable {X : Nat → Prop} {s0 s s' : St} {R F G H : List At} {P : Program} {t : TypeId} {b off e : Nat} {C : List Value} {v : Value} {i : TypeInfo}
theorem Hp.appInT {K : Value × St → Prop} (h : Hp X s0 R F s) {et u by_ n c ty : Nat} {z : Value} (T : SlT P t et 1 by_ z) (hd : P.underlying u = some .string) (r : Rm (tyA b C 1 ty) F G) (x : List UInt8) (hc : n + x.length ≤ c) (hC : C.length = c)
    (hk : ∀ s', Hp X s0 R (tyA b (putAt C n (byteVals x)) 1 ty :: G) s' → K (.slice (some ⟨b, 0, none⟩) (n + x.length) c, s')) : Om (evAp P t u (.slice (some ⟨b, 0, none⟩) n c) (sv x) s) K := by
  obtain ⟨i, hi1, hi2, hi3, hi4⟩ := T.hi
  have hb : Bty s b C 1 ty := h.okF _ r.sub.1
  have hx : elemsOf s 1 (sv x) = some (x.length, byteVals x) := elems_str s _
  subst hi3
  by_cases hm : x = []
  · subst hm
    rw [show byteVals [] = [] from rfl, putAt_nil] at hk
    refine .of (.slice (some ⟨b, 0, none⟩) n c, s) ?_ (hk s (h.upd r (Y := fun _ => False) (.refl h.wf) (fun _ h => h.elim) hb fun j hj => .inl hj))
    simp only [List.length_nil] at hc
    simp only [evAp, evAppend, T.hu, hd, isIntDesc, hi1, hi4, T.hz, T.hzs, hi2, Nat.beq_refl, blt_of T.sz0, blt_of T.by0, hx, byteVals_one, List.length_nil, Nat.ble_eq_true_of_le (show n + 0 ≤ c by omega)]
  · have hm2 : x.length ≠ 0 := by simpa using hm
    obtain ⟨s', g1, g2, g3, g4⟩ := write_kp (off := n) (vs := byteVals x) h.wf hb.blk (by rw [byteVals_length]; omega)
    have g5 := write_blt hb.blt hb.blk g1
    refine .of (.slice (some ⟨b, 0, none⟩) (n + x.length) c, s') ?_ (hk s' (h.upd r g2 (fun j hj => .inl hj) ⟨g3, g5⟩ (fun j hj => .inl hj)))
    simp only [evAp, evAppend, T.hu, hd, isIntDesc, hi1, hi4, T.hz, T.hzs, hi2, Nat.beq_refl, blt_of T.sz0, blt_of T.by0, hx, byteVals_one, Nat.ble_eq_true_of_le hc, beq_no hm2, hb.blk.esz, Nat.zero_add, Nat.mul_one, g1]
end
theorem unsafe_strC {P : Program} {pt it e8 : TypeId} {i : TypeInfo} (hp : P.underlying pt = some (.pointer e8)) (hi : P.info? e8 = some i) (h1 : i.size = 1) {s : St} (wf : WF s) {k g : Nat} {C : List Value} {l : List UInt8} (hb : Blk s k g C 1) (ht : Blt s k C 1 e8) (hC : C.take l.length = byteVals l) (h0 : l ≠ []) (hl : l.length ≤ 9223372036854775807) :
    ∃ s', evUStr P [pt, it] (.pointer (some ⟨g, 0, none⟩)) (.int .i64 (l.length : Int)) s = some (.string ⟨l.toArray⟩, s') ∧ Kp (fun j => j = k) s s' := by
  obtain ⟨fl, g1, g2, g3, g4⟩ := ht.head hb
  obtain ⟨s', hs, hk, _⟩ := seal_kp wf hb
  refine ⟨s', ?_, hk⟩
  obtain ⟨m, hm⟩ : ∃ m, l.length = m + 1 := ⟨l.length - 1, by have : l.length ≠ 0 := by simpa using h0
                                                              omega⟩
  have hlen : l.length ≤ C.length := by
    have := congrArg List.length hC
    rw [List.length_take, byteVals_length] at this; omega
  have hsl : sl C 0 (m + 1) = some (byteVals l) := by
    unfold sl
    rw [← hm]
    have e : ((List.drop 0 C).take l.length) = byteVals l := hC
    simp only [e]
    rw [byteVals_length, Nat.beq_refl]
  show (match P.underlying pt, Value.pointer (some ⟨g, 0, none⟩), Value.int .i64 (.ofNat l.length) with
    | some (.pointer _), .pointer none, .int .i64 (.ofNat 0) => some (Value.string ⟨#[]⟩, s)
    | some (.pointer _), .pointer (some _), .int .i64 (.ofNat 0) => some (Value.string ⟨#[]⟩, s)
    | some (.pointer e), .pointer (some a), .int .i64 (.ofNat (m + 1)) => match P.info? e, s.heap.get a.block, s.tys.get a.block, s.rd a.block, s.sealB a.block with
      | some i, some (.cells _ _ 0 _ true), some (t + 1), some cs, some s' => match Nat.beq i.size 1, Nat.beq t e, Nat.beq a.off 0, Nat.ble (m + 1) 9223372036854775807, sl cs 0 (m + 1) with
        | true, true, true, true, some l => match bytesOk l, valBytes l with
          | true, some b => some (Value.string ⟨b.toArray⟩, s')
          | _, _ => none
        | _, _, _, _, _ => none
      | _, _, _, _, _ => none
    | _, _, _ => none) = _
  rw [hp, hm]
  simp only [hi, g1, g4, hb.rd, hs, h1, Nat.beq_refl, Nat.ble_eq_true_of_le (show m + 1 ≤ 9223372036854775807 by omega), hsl, bytesOk_vals, valBytes_byteVals]
section
variable {X : Nat → Prop} {s0 s s' : St} {R F G H : List At} {p b n c : Nat} {a : Option Addr} {C : List Value}
theorem writeC_spec (hp : Hp X s0 R F s) (ha : a = none ∨ a = some ⟨p, 0, none⟩) (h1 : Rm (tyA p [.pointer a, .slice (some ⟨b, 0, none⟩) n c] 2 158) F G) (h2 : Rm (tyA b C 1 5) G H) (t : List UInt8) (hfit : n + t.length ≤ c) (hC : C.length = c) {K : Value → St → Prop}
    (hK : ∀ s', Hp X s0 R (tyA p [.pointer (some ⟨p, 0, none⟩), .slice (some ⟨b, 0, none⟩) (n + t.length) c] 2 158 :: tyA b (putAt C n (byteVals t)) 1 5 :: H) s' → K (.tuple #[.int .i64 (t.length : Int), .nilIface]) s') :
    Cw Tryz.prog 109 [.pointer (some ⟨p, 0, none⟩), sv t] s K := by
  refine Cw.enterS Tryz.func109 rfl rfl ?_
  refine Sm.seqW ?_
  conv => whnf
  refine Sm.live [0, 1] ?_
  conv => whnf
  refine Sm.seqW ?_
  conv => whnf
  refine hp.callU (a' := tyA p [.pointer (some ⟨p, 0, none⟩), .slice (some ⟨b, 0, none⟩) n c] 2 158) h1 (fun j hj => .inl hj) (fun j hj => .inl hj) (copyCheck_spec hp.wf (hp.okF _ h1.sub.1) ha) ?_
  clear hp
  intro r s _ hp
  conv => whnf
  refine Sm.live [0, 1] ?_
  conv => whnf
  refine Sm.seqW ?_
  conv => whnf
  (refine hp.loadT (by repeat (first | exact Has.here | apply Has.there | (apply Has.swap; repeat (first | exact HasR.here | apply HasR.there)))) (v := .slice (some ⟨b, 0, none⟩) n c) (by rfl) rfl rfl rfl ?_; conv => whnf)
  refine hp.appInT UB Tryz.underlying9 (Rm.there h2) t hfit hC ?_
  clear hp
  intro s hp
  conv => whnf
  refine hp.storeT (Rm.there Rm.here) (by show 1 < 2; decide) rfl rfl rfl rfl ?_
  clear hp
  intro s hp _
  conv => whnf
  refine Sm.live [0, 1] ?_
  conv => whnf
  refine Sm.seqW ?_
  conv => whnf
  refine Sm.ofW ?_
  conv => whnf
  exact ⟨hK _ (hp.pik (.cons .here (.refl _)))⟩
theorem Hp.mnz (h : Hp X s0 R F s) (n : Nat) (hn : n ≤ 140737488351232) {K : Value → St → Prop} (k : ∀ b s', Hp X s0 R (tyA b (List.replicate n (.chan none)) 1 5 :: F) s' → K0 s s' → K (.slice (some ⟨b, 0, none⟩) n n) s') :
    Cw Tryz.prog 155 [.int .i64 (n : Int)] s K := by
  obtain ⟨g1, g2⟩ := new_kp h.wf (List.replicate n (.chan none)) 1 (ty := 5 + 1)
  refine ⟨⟨_, _, k _ _ (h.push g1 ⟨g2, new_blt _ _ _ _⟩ fun j hj => by subst hj; exact Nat.le_refl _) g1, .inr (.inr ⟨Tryz.f155, Tryz.func155, rfl, ?_, ?_⟩)⟩⟩
  · unfold evExt
    rfl
  · show (match Tryz.prog.underlying 59 with
      | some (.slice e) => match Nat.ble n 140737488351232 with
        | true => some (Value.slice (some ⟨s.next, 0, none⟩) n n, s.new (List.replicate n (.chan none)) 1 (e + 1))
        | false => none
      | _ => none) = _
    rw [Tryz.underlying59]
    simp only [Nat.ble_eq_true_of_le hn]
theorem growB_spec (hp : Hp X s0 R F s) (h1 : Rm (tyA p [.pointer (some ⟨p, 0, none⟩), .slice none 0 0] 2 158) F G) (n : Nat) (h0 : 0 < n) (hn : n ≤ 100000000) {K : Value → St → Prop}
    (hK : ∀ v b s', Hp X s0 R (tyA p [.pointer (some ⟨p, 0, none⟩), .slice (some ⟨b, 0, none⟩) 0 n] 2 158 :: tyA b (List.replicate n (.chan none)) 1 5 :: G) s' → K v s') :
    Cw Tryz.prog 136 [.pointer (some ⟨p, 0, none⟩), .int .i64 (n : Int)] s K := by
  replace hp : Hp X s0 R (tyA p [.pointer (some ⟨p, 0, none⟩), .slice none 0 0] 2 158 :: G) s := hp.pik (.cons h1 (.refl _))
  clear h1
  have e1 : IntKind.i64.wrap (IntKind.i64.wrap (2 * 0) + (n : Int)) = (n : Int) := by rw [wi64 (n := 2 * 0) (by decide) (by decide), wi64 (by omega) (by omega)]; omega
  refine Cw.enterS Tryz.func136 rfl rfl ?_
  refine Sm.seqW ?_
  conv => whnf
  refine ⟨[0, 1, 3, 7, 15, 31, 0, 127, 255, 0, 512, 1536, 3584, 7680, 16383, 32767], by decide +kernel, by decide +kernel, ?_⟩
  conv => whnf
  (refine hp.loadT (C := [.pointer (some ⟨p, 0, none⟩), .slice none 0 0]) (b := p) (e := 2) (ty := 158) .here (v := .slice none 0 0) (by rfl) rfl rfl rfl ?_; conv => whnf)
  refine Om.of (.int .i64 0) rfl ?_
  conv => whnf
  refine hp.dkS ?_
  conv => whnf
  rw [e1]
  refine hp.rst.mnz n (by omega) ?_
  intro b s1 h1 k1
  conv => whnf
  refine hp.dkN h1 k1 ?_
  clear hp h1 k1
  intro s hp
  conv => whnf
  (refine hp.loadT (C := [.pointer (some ⟨p, 0, none⟩), .slice none 0 0]) (b := p) (e := 2) (ty := 158) (.there .here) (v := .slice none 0 0) (by rfl) rfl rfl rfl ?_; conv => whnf)
  have hcut : evSliceMem Tryz.prog 59 (.slice (some ⟨b, 0, none⟩) n n) none (some (.int .i64 ((0 : Nat) : Int))) none s = some (.slice (some ⟨b, 0, none⟩) 0 n) := by
    have hb : bnds n n none (some (.int .i64 ((0 : Nat) : Int))) none = some (0, 0, n) := by
      unfold bnds
      simp only [bnd_nat (Nat.zero_le n)]
    obtain ⟨i, hi1, hi2, hi3, hi4⟩ := UB.hi
    have hbk : Bty s b (List.replicate n (.chan none)) 1 5 := hp.okF _ (List.mem_cons_self ..)
    unfold evSliceMem
    rw [UB.hu]
    simp only [hi1, hbk.blk.esz, hi2, Nat.beq_refl, hb]
    simp
  refine Om.of _ (hcut) ?_
  conv => whnf
  refine Sm.live [0, 4] ?_
  conv => whnf
  refine Sm.seqW ?_
  conv => whnf
  (refine hp.loadT (C := [.pointer (some ⟨p, 0, none⟩), .slice none 0 0]) (b := p) (e := 2) (ty := 158) (.there .here) (v := .slice none 0 0) (by rfl) rfl rfl rfl ?_; conv => whnf)
  refine Om.of (.int .i64 0, s) (by rfl) ?_
  conv => whnf
  refine Sm.live [0, 4] ?_
  conv => whnf
  refine Sm.ofW ?_
  conv => whnf
  refine hp.storeT (.there .here) (by show 1 < 2; decide) rfl rfl rfl rfl ?_
  clear hp
  intro s hp _
  conv => whnf
  exact ⟨hK _ _ _ hp⟩
theorem growC_spec (hp : Hp X s0 R F s) (h1 : Rm (tyA p [.pointer none, .slice none 0 0] 2 158) F G) (n : Nat) (h0 : 0 < n) (hn : n ≤ 100000000) {K : Value → St → Prop}
    (hK : ∀ v b s', Hp X s0 R (tyA p [.pointer (some ⟨p, 0, none⟩), .slice (some ⟨b, 0, none⟩) 0 n] 2 158 :: tyA b (List.replicate n (.chan none)) 1 5 :: G) s' → K v s') :
    Cw Tryz.prog 108 [.pointer (some ⟨p, 0, none⟩), .int .i64 (n : Int)] s K := by
  refine Cw.enterS Tryz.func108 rfl rfl ?_
  refine Sm.seqW ?_
  conv => whnf
  refine hp.callU (a' := tyA p [.pointer (some ⟨p, 0, none⟩), .slice none 0 0] 2 158) h1 (fun j hj => .inl hj) (fun j hj => .inl hj) (copyCheck_spec hp.wf (hp.okF _ h1.sub.1) (.inl rfl)) ?_
  clear hp h1
  intro r s _ hp
  conv => whnf
  refine Sm.live [0, 1] ?_
  conv => whnf
  refine Sm.seq ?_
  refine Sm.seqW ?_
  conv => whnf
  refine Sm.ofW ?_
  conv => whnf
  refine Br.no (decide_eq_false (by omega)) ?_
  conv => whnf
  refine Sm.seqW ?_
  conv => whnf
  refine ⟨[0, 1, 3, 7, 15, 0, 32, 96, 224, 480, 1023, 0, 4095], by decide +kernel, by decide +kernel, ?_⟩
  conv => whnf
  (refine hp.loadT (C := [.pointer (some ⟨p, 0, none⟩), .slice none 0 0]) (b := p) (e := 2) (ty := 158) .here (v := .slice none 0 0) (by rfl) rfl rfl rfl ?_; conv => whnf)
  refine Om.of (.int .i64 0) rfl ?_
  conv => whnf
  refine hp.dkS ?_
  conv => whnf
  (refine hp.loadT (C := [.pointer (some ⟨p, 0, none⟩), .slice none 0 0]) (b := p) (e := 2) (ty := 158) .here (v := .slice none 0 0) (by rfl) rfl rfl rfl ?_; conv => whnf)
  refine Sm.live [0, 1, 21] ?_
  conv => whnf
  refine Sm.ofW ?_
  conv => whnf
  refine Br.yes (decide_eq_true (by show IntKind.i64.wrap (0 - 0) < (n : Int); rw [show IntKind.i64.wrap (0 - 0) = 0 by decide]; omega)) ?_
  conv => whnf
  refine growB_spec hp .here n h0 hn ?_
  clear hp
  intro v b s hp
  conv => whnf
  exact ⟨hK _ _ _ hp⟩
end
end Go.Ev
end

/- strings.Join with a byte between, walked; TrimPrefix. No condition. -/
noncomputable section
namespace Go.Ev
open Go.Proofs
variable [Lk]
set_option linter.unusedSectionVars false
set_option linter.unusedVariables false
set_option maxRecDepth 100000

theorem index_sv {s : St} {κ : Option Nat} {v : Value} {L : List (List UInt8)} (h : Sl s κ v 1 L.length (L.map sv)) (k : IntKind) {i : Nat} (hi : i < L.length) :
    ∃ a, evIndexAddr Tryz.prog 95 v (.int k (i : Int)) = some (.pointer (some a)) ∧ evLoad Tryz.prog 9 (.pointer (some a)) s = some (sv L[i]) := by
  obtain ⟨p, y, e1, e2, e3, a, rfl⟩ := index_sl SG Tryz.underlying9 rfl h k hi
  rw [List.getElem?_map, List.getElem?_eq_getElem hi] at e2
  injection e2 with e2
  subst e2
  exact ⟨a, e1, e3⟩
theorem joinL_len (c : UInt8) : ∀ L : List (List UInt8), L ≠ [] → (joinL c L).length = (L.map List.length).sum + (L.length - 1)
  | [], h => absurd rfl h
  | x :: r, _ => by
    have : ∀ r : List (List UInt8), (r.flatMap fun w => c :: w).length = (r.map List.length).sum + r.length := by
      intro r
      induction r with
      | nil => rfl
      | cons y r ih => simp only [List.flatMap_cons, List.length_append, List.length_cons, ih, List.map_cons, List.sum_cons]; omega
    simp only [joinL, List.length_append, this, List.map_cons, List.sum_cons, List.length_cons]
    omega
theorem sum_take_le : ∀ (L : List Nat) (i : Nat), (L.take i).sum ≤ L.sum
  | [], i => by simp
  | x :: r, 0 => by simp
  | x :: r, i + 1 => by have := sum_take_le r i; simp only [List.take_succ_cons, List.sum_cons]; omega
theorem put_take {C : List Value} {l t : List UInt8} (hC : C.take l.length = byteVals l) (h : l.length + t.length ≤ C.length) : (putAt C l.length (byteVals t)).take (l ++ t).length = byteVals (l ++ t) ∧ (putAt C l.length (byteVals t)).length = C.length := by
  unfold putAt
  rw [hC, byteVals_length]
  refine ⟨?_, ?_⟩
  · rw [byteVals_append]
    exact List.take_left' (by rw [List.length_append, byteVals_length, byteVals_length, List.length_append])
  · simp only [List.length_append, byteVals_length, List.length_drop]; omega
section
variable {X : Nat → Prop} {s0 s s' : St} {R F G H : List At} {p b c : Nat} {a : Option Addr} {C : List Value}
theorem stringC_spec (hp : Hp X s0 R F s) {l : List UInt8} (h1 : Rm (tyA p [.pointer a, .slice (some ⟨b, 0, none⟩) l.length c] 2 158) F G) (h2 : Rm (tyA b C 1 5) G H) (hC : C.take l.length = byteVals l) (h0 : l ≠ []) (hl : l.length ≤ 100000000) (hlc : l.length ≤ c) {K : Value → St → Prop}
    (hK : ∀ s', Hp X s0 R H s' → K (sv l) s') :
    Cw Tryz.prog 110 [.pointer (some ⟨p, 0, none⟩)] s K := by
  replace hp : Hp X s0 R (tyA p [.pointer a, .slice (some ⟨b, 0, none⟩) l.length c] 2 158 :: tyA b C 1 5 :: H) s := hp.pik (.cons h1 (.cons h2 (.refl _)))
  clear h1 h2
  refine Cw.enterS Tryz.func110 rfl rfl ?_
  refine Sm.seqW ?_
  conv => whnf
  refine Sm.live [0] ?_
  conv => whnf
  refine Sm.seqW ?_
  conv => whnf
  refine ⟨[0, 1, 3, 7, 15, 0, 32, 96, 224, 480, 1023, 2047], by decide +kernel, by decide +kernel, ?_⟩
  conv => whnf
  (refine hp.loadT (C := [.pointer a, .slice (some ⟨b, 0, none⟩) l.length c]) (b := p) (e := 2) (ty := 158) .here (v := .slice (some ⟨b, 0, none⟩) l.length c) (by rfl) rfl rfl rfl ?_; conv => whnf)
  obtain ⟨m, hm⟩ : ∃ m, l.length = m + 1 := ⟨l.length - 1, by have := List.length_pos_iff.2 h0; omega⟩
  obtain ⟨m2, hm2⟩ : ∃ m2, c = m2 + 1 := ⟨c - 1, by omega⟩
  refine Om.of (.pointer (some ⟨b, 0, none⟩)) (by rw [hm, hm2]; rfl) ?_
  conv => whnf
  refine hp.dkS ?_
  conv => whnf
  (refine hp.loadT (C := [.pointer a, .slice (some ⟨b, 0, none⟩) l.length c]) (b := p) (e := 2) (ty := 158) .here (v := .slice (some ⟨b, 0, none⟩) l.length c) (by rfl) rfl rfl rfl ?_; conv => whnf)
  have hB : Bty s b C 1 5 := hp.okF (tyA b C 1 5) (by simp)
  obtain ⟨s', u1, u2⟩ := unsafe_strC (it := 3) Tryz.underlying189 (i := _) (rfl : Tryz.prog.info? 5 = some _) rfl hp.rst.wf hB.blk.reset hB.blt.reset hC h0 (by omega)
  refine Om.of _ u1 ?_
  conv => whnf
  have h9 := hp.rst.upd (a := tyA b C 1 5) (a' := bufA none (.slice none 0 0) [] 5) (.there .here) u2 (fun j hj => .inl hj) ⟨.inl ⟨rfl, rfl, rfl⟩⟩ (fun j hj => by cases hj)
  refine hp.dkA h9 ?_ ?_
  · intro s2 hp
    conv => whnf
    refine Sm.live [2] ?_
    conv => whnf
    refine Sm.ofW ?_
    conv => whnf
    exact ⟨hK _ (hp.pik (.skip (.skip (.refl _))))⟩
  · intro s2 hp
    conv => whnf
    refine Sm.live [2] ?_
    conv => whnf
    refine Sm.ofW ?_
    conv => whnf
    exact ⟨hK _ (hp.pik (.skip (.skip (.refl _))))⟩
end
theorem flat_le (c : UInt8) : ∀ (T : List (List UInt8)) (i : Nat), ((T.take i).flatMap fun w => c :: w).length ≤ (T.flatMap fun w => c :: w).length
  | [], i => by simp
  | x :: r, 0 => by simp
  | x :: r, i + 1 => by
    have := flat_le c r i
    simp only [List.take_succ_cons, List.flatMap_cons, List.length_append]; omega
theorem drop_sv {s : St} {κ : Option Nat} {v : Value} {L : List (List UInt8)} (h : Sl s κ v 1 L.length (L.map sv)) {i : Nat} (hi : i ≤ L.length) :
    ∃ v', evSliceMem Tryz.prog 95 v (some (.int .i64 (i : Int))) none none s = some v' ∧ Sl s κ v' 1 (L.drop i).length ((L.drop i).map sv) := by
  obtain ⟨v', e, h'⟩ := slice_sl SG h .i64 .i64 (some i) none (by simpa using hi) (by simp)
  refine ⟨v', e, ?_⟩
  simp only [Option.getD_some, Option.getD_none, Nat.mul_one] at h'
  rw [← List.map_drop, List.take_of_length_le (by simp)] at h'
  rw [List.length_drop]
  exact h'
theorem sjoin_spec {z : St} (wf : WF z) {κ : Option Nat} {v : Value} {L : List (List UInt8)} (hv : Sl z κ v 1 L.length (L.map sv)) (c : UInt8) (hb : (joinL c L).length ≤ 100000000) :
    Cw Tryz.prog 63 [v, sv [c]] z fun r s' => K0 z s' ∧ r = sv (joinL c L) := by
  obtain ⟨a, cp, rfl⟩ := hv.shape
  have hp : Hp (fun _ => False) z [slA κ (.slice a L.length cp) 1 L.length (L.map sv)] [] z := Hp.start _ wf _ (by simp; exact hv)
  refine Cw.enterS Tryz.func63 rfl rfl ?_
  refine Sm.seqW ?_
  conv => whnf
  refine Sm.live [0, 1] ?_
  conv => whnf
  refine Sm.seq ?_
  refine Sm.ofW ?_
  conv => whnf
  by_cases h0 : L = []
  · have q : (((L.length : Nat) : Int) == 0) = true := by rw [h0]; rfl
    repeat (first | (refine Br.yes q ?_; conv => whnf) | (first | (refine Br.yes (by first | with_reducible rfl | with_reducible exact beq_self_eq_true _ | rfl) ?_; conv => whnf) | (refine Br.no (by first | with_reducible rfl | with_reducible exact bne_self_eq_false _ | rfl) ?_; conv => whnf)))
    exact ⟨hp.fr, by rw [h0]; rfl⟩
  have hl0 : 0 < L.length := List.length_pos_iff.2 h0
  have q : (((L.length : Nat) : Int) == 0) = false := beq_eq_false_iff_ne.2 (by omega)
  by_cases h1 : L.length = 1
  · obtain ⟨w, rfl⟩ := List.length_eq_one_iff.1 h1
    repeat (first | (refine Br.no q ?_; conv => whnf) | (first | (refine Br.yes (by first | with_reducible rfl | with_reducible exact beq_self_eq_true _ | rfl) ?_; conv => whnf) | (refine Br.no (by first | with_reducible rfl | with_reducible exact bne_self_eq_false _ | rfl) ?_; conv => whnf)))
    obtain ⟨e, g1, g2⟩ := index_sv (hp.slR (κ := κ) (v := .slice a 1 cp) (cs := [sv w]) .here) .i64 (i := 0) (L := [w]) (by simp)
    refine Om.of _ (g1) ?_
    conv => whnf
    refine Om.of _ (g2) ?_
    conv => whnf
    exact ⟨hp.fr, by (show sv w = sv (w ++ []); rw [List.append_nil])⟩
  have q1 : (((L.length : Nat) : Int) == 1) = false := beq_eq_false_iff_ne.2 (by omega)
  repeat (first | (refine Br.no q ?_; conv => whnf) | (refine Br.no q1 ?_; conv => whnf) | (first | (refine Br.yes (by first | with_reducible rfl | with_reducible exact beq_self_eq_true _ | rfl) ?_; conv => whnf) | (refine Br.no (by first | with_reducible rfl | with_reducible exact bne_self_eq_false _ | rfl) ?_; conv => whnf)))
  have hjl := joinL_len c L h0
  obtain ⟨m, hm⟩ : ∃ m, L.length = m + 1 := ⟨L.length - 1, by omega⟩
  have hm1 : 0 < m := by omega
  have e1 : IntKind.i64.wrap ((L.length : Int) - 1) = (m : Int) := by rw [wi64 (by omega) (by omega)]; omega
  have hsum : (L.map List.length).sum + m = (joinL c L).length := by rw [hjl, hm]; omega
  refine Sm.seqW ?_
  conv => whnf
  refine Sm.live [0, 1, 5] ?_
  conv => whnf
  refine Sm.seq ?_
  refine Sm.seqW ?_
  conv => whnf
  refine Sm.ofW ?_
  conv => whnf
  repeat (first | (refine Br.yes (by first | with_reducible rfl | with_reducible exact beq_self_eq_true _ | rfl) ?_; conv => whnf) | (refine Br.no (by first | with_reducible rfl | with_reducible exact bne_self_eq_false _ | rfl) ?_; conv => whnf))
  refine Om.of (.int .i64 ((9223372036854775807 / m : Nat) : Int)) (by rw [e1]; exact quo_nat hm1 (by decide)) ?_
  conv => whnf
  have hq : ¬ (1 : Int) ≥ ((9223372036854775807 / m : Nat) : Int) := by
    have : 2 ≤ 9223372036854775807 / m := (Nat.le_div_iff_mul_le hm1).2 (by omega)
    omega
  refine Br.no (decide_eq_false hq) ?_
  conv => whnf
  have e2 : IntKind.i64.wrap (0 + IntKind.i64.wrap ((1 : Int) * IntKind.i64.wrap ((L.length : Int) - 1))) = (m : Int) := by
    rw [e1, wi64 (n := (1 : Int) * (m : Int)) (by omega) (by omega), wi64 (by omega) (by omega)]; omega
  have e2' : IntKind.i64.wrap (0 + IntKind.i64.wrap (((bs ⟨#[c]⟩).length : Int) * IntKind.i64.wrap ((L.length : Int) - 1))) = (m : Int) := e2
  rw [e2']
  refine Sm.live [0, 1, 5] ?_
  conv => whnf
  refine Sm.seq ?_
  refine Sm.seqW ?_
  conv => whnf
  refine Sm.live [0, 1, 5, 39, 40, 41] ?_
  conv => whnf
  refine Sm.block ?_
  refine Sm.loop ?_
  refine Lp.ofS (α := Nat) (fun i => [(0, .slice a L.length cp), (1, sv [c]), (5, .int .i64 ((m + ((L.map List.length).take i).sum : Nat) : Int)), (39, .slice a L.length cp), (40, .int .i64 ((L.length : Nat) : Int)), (41, .int .i64 (i : Int))])
    (fun i s' => i ≤ L.length ∧ s' = z) (fun i => L.length - i) ?_ 0 (subK_ok (by refine ⟨rfl, rfl, rfl, rfl, rfl, rfl, trivial⟩)) ⟨Nat.zero_le _, rfl⟩
  rintro i s ⟨hi, rfl⟩
  have hti := sum_take_le (L.map List.length) i
  refine Sm.seqW ?_
  conv => whnf
  refine Sm.live [0, 1, 5, 39, 40, 41, 42] ?_
  conv => whnf
  refine Sm.seq ?_
  refine Sm.ofW ?_
  conv => whnf
  refine Br.mk (fun hc => ?_) (fun hc => ?_)
  · have hc : i < L.length := by have : (i : Int) < ((L.length : Nat) : Int) := of_decide_eq_true hc; omega
    obtain ⟨e, g1, g2⟩ := index_sv (hp.slR (κ := κ) (v := .slice a L.length cp) .here) .i64 hc
    have hts := sum_take_le (L.map List.length) (i + 1)
    have e3 : ((L.map List.length).take (i + 1)).sum = ((L.map List.length).take i).sum + L[i].length := by
      rw [List.take_succ_eq_append_getElem (by rw [List.length_map]; exact hc), List.sum_append, List.getElem_map]; simp
    generalize hw : L[i] = w at *
    conv => whnf
    refine Sm.seq ?_
    refine Sm.block ?_
    refine Sm.seqW ?_
    conv => whnf
    refine Om.of _ (g1) ?_
    conv => whnf
    refine Om.of _ (g2) ?_
    conv => whnf
    refine Sm.live [0, 1, 5, 7, 39, 40, 41] ?_
    conv => whnf
    refine Sm.seq ?_
    refine Sm.seqW ?_
    conv => whnf
    refine Sm.ofW ?_
    conv => whnf
    refine Br.no (decide_eq_false (by
      show ¬ ((w.length : Int) > IntKind.i64.wrap (9223372036854775807 - ((m + ((L.map List.length).take i).sum : Nat) : Int)))
      rw [wi64 (by omega) (by omega)]; omega)) ?_
    conv => whnf
    refine Sm.ofW ?_
    conv => whnf
    refine Sm.ofW ?_
    conv => whnf
    exact ⟨i + 1, by (show L.length - (i + 1) < L.length - i); omega, subK_ok (by refine ⟨rfl, rfl, congrArg (fun x => some (Value.int .i64 x)) (show IntKind.i64.wrap (((m + ((L.map List.length).take i).sum : Nat) : Int) + ((w.length : Nat) : Int)) = ((m + ((L.map List.length).take (i + 1)).sum : Nat) : Int) by rw [wi64 (by omega) (by omega)]; omega), rfl, rfl, congrArg (fun x => some (Value.int .i64 x)) (show IntKind.i64.wrap ((i : Int) + 1) = ((i + 1 : Nat) : Int) by rw [wi64 (by omega) (by omega)]; omega), trivial⟩), by omega, rfl⟩
  · have hc : i = L.length := by have : ¬ (i : Int) < ((L.length : Nat) : Int) := of_decide_eq_false hc; omega
    subst hc
    rw [List.take_of_length_le (by rw [List.length_map]; exact Nat.le_refl _)]
    have hN : m + (L.map List.length).sum = (joinL c L).length := by omega
    rw [hN]
    obtain ⟨N, hN2⟩ : ∃ N, N = (joinL c L).length := ⟨_, rfl⟩
    rw [← hN2]
    conv => whnf
    refine Sm.seqW ?_
    conv => whnf
    refine hp.allocT (cs := [.pointer none, .slice none 0 0]) (e := 2) rfl rfl rfl rfl rfl ?_
    clear hp
    intro pb s1 hp _
    conv => whnf
    refine Sm.live [0, 1, 5, 8] ?_
    conv => whnf
    refine Sm.seqW ?_
    conv => whnf
    refine growC_spec hp .here N (by omega) (by omega) ?_
    clear hp
    intro vg b s2 hp
    conv => whnf
    refine Sm.live [0, 1, 8] ?_
    conv => whnf
    refine Sm.seqW ?_
    conv => whnf
    obtain ⟨x, T, rfl⟩ := List.exists_cons_of_ne_nil h0
    have hTm : T.length = m := by simpa using hm
    have hNT : N = x.length + (T.flatMap fun w => c :: w).length := by rw [hN2]; show (x ++ _).length = _; rw [List.length_append]
    obtain ⟨e0, g1, g2⟩ := index_sv (hp.slR (κ := κ) (v := .slice a (x :: T).length cp) .here) .i64 (i := 0) hl0
    refine Om.of _ (g1) ?_
    conv => whnf
    refine Om.of _ (g2) ?_
    conv => whnf
    refine writeC_spec hp (.inr rfl) .here .here x (by omega) (by simp) ?_
    clear hp
    intro s3 hp
    have hC0 := put_take (C := List.replicate N (.chan none)) (l := []) (t := x) rfl (by simp; omega)
    rw [List.nil_append] at hC0
    generalize hCd : putAt (List.replicate N (Value.chan none)) ([] : List UInt8).length (byteVals x) = C0 at hC0
    have hp : Hp (fun _ => False) s [slA κ (.slice a (x :: T).length cp) 1 (x :: T).length ((x :: T).map sv)] [tyA pb [.pointer (some ⟨pb, 0, none⟩), .slice (some ⟨b, 0, none⟩) x.length N] 2 158, tyA b C0 1 5] s3 := by
      rw [← hCd]
      have : 0 + x.length = x.length := Nat.zero_add _
      rw [this] at hp
      exact hp
    rw [List.length_replicate] at hC0
    conv => whnf
    refine Sm.live [0, 1, 8] ?_
    conv => whnf
    refine Sm.seq ?_
    refine Sm.seqW ?_
    conv => whnf
    obtain ⟨v', g3, g4⟩ := drop_sv (hp.slR (κ := κ) (v := .slice a (x :: T).length cp) .here) (i := 1) (by simp)
    refine Om.of _ (g3) ?_
    conv => whnf
    have g4 : Sl s3 κ v' 1 T.length (T.map sv) := g4
    obtain ⟨a', cp', rfl⟩ := g4.shape
    replace hp := hp.view .here (a' := slA κ (.slice a' T.length cp') 1 T.length (T.map sv)) g4 (fun j hj => hj)
    clear g3 g4
    conv => whnf
    refine Sm.live [1, 8, 63, 64, 65] ?_
    conv => whnf
    refine Sm.block ?_
    refine Sm.loop ?_
    refine Lp.ofS (α := Nat) (fun i => [(1, sv [c]), (8, .pointer (some ⟨pb, 0, none⟩)), (63, .slice a' T.length cp'), (64, .int .i64 ((T.length : Nat) : Int)), (65, .int .i64 (i : Int))])
      (fun i s' => i ≤ T.length ∧ ∃ C l, l = x ++ (T.take i).flatMap (fun w => c :: w) ∧ C.take l.length = byteVals l ∧ C.length = N ∧ Hp (fun _ => False) s [slA κ (.slice a' T.length cp') 1 T.length (T.map sv)] [tyA pb [.pointer (some ⟨pb, 0, none⟩), .slice (some ⟨b, 0, none⟩) l.length N] 2 158, tyA b C 1 5] s') (fun i => T.length - i) ?_ 0 (subK_ok (by refine ⟨rfl, rfl, rfl, rfl, rfl, trivial⟩)) ⟨Nat.zero_le _, C0, x, by simp, hC0.1, hC0.2, hp.pikR (by repeat (first | exact Pik.nil | exact Pik.refl _ | exact Rm.here | apply Rm.there | apply Pik.cons | apply Pik.skip))⟩
    clear hp hC0
    rintro i s4 ⟨hi, C, l, hl, hC1, hC2, hp⟩
    refine Sm.seqW ?_
    conv => whnf
    refine Sm.live [1, 8, 63, 64, 65, 66] ?_
    conv => whnf
    refine Sm.seq ?_
    refine Sm.ofW ?_
    conv => whnf
    refine Br.mk (fun hc => ?_) (fun hc => ?_)
    · have hc : i < T.length := by have : (i : Int) < ((T.length : Nat) : Int) := of_decide_eq_true hc; omega
      obtain ⟨e, g1, g2⟩ := index_sv (hp.slR (κ := κ) (v := .slice a' T.length cp') .here) .i64 hc
      have hfl := flat_le c T (i + 1)
      have e3 : (T.take (i + 1)).flatMap (fun w => c :: w) = (T.take i).flatMap (fun w => c :: w) ++ c :: T[i] := by
        rw [List.take_succ_eq_append_getElem hc, List.flatMap_append]; simp
      have hll : l.length + 1 + T[i].length ≤ N := by
        have := congrArg List.length e3
        rw [hl]
        simp only [List.length_append, List.length_cons] at this ⊢
        omega
      have hl2 : x ++ (T.take (i + 1)).flatMap (fun w => c :: w) = l ++ [c] ++ T[i] := by rw [e3, hl]; simp
      generalize hw : T[i] = w at *
      conv => whnf
      refine Sm.seq ?_
      refine Sm.block ?_
      refine Sm.seqW ?_
      conv => whnf
      refine Om.of _ (g1) ?_
      conv => whnf
      refine Om.of _ (g2) ?_
      conv => whnf
      refine Sm.live [1, 8, 10, 63, 64, 65] ?_
      conv => whnf
      refine Sm.seqW ?_
      conv => whnf
      refine writeC_spec hp (.inr rfl) .here .here [c] (by simp; omega) hC2 ?_
      clear hp
      intro s5 hp
      obtain ⟨k1, k2⟩ := put_take (t := [c]) hC1 (by simp; omega)
      generalize putAt C l.length (byteVals [c]) = C' at *
      rw [show l.length + [c].length = (l ++ [c]).length by simp] at hp
      conv => whnf
      refine Sm.live [1, 8, 10, 63, 64, 65] ?_
      conv => whnf
      refine Sm.ofW ?_
      conv => whnf
      refine writeC_spec hp (.inr rfl) .here .here w (by simp; omega) (by rw [k2, hC2]) ?_
      clear hp
      intro s6 hp
      obtain ⟨k3, k4⟩ := put_take (t := w) k1 (by simp; omega)
      generalize putAt C' (l ++ [c]).length (byteVals w) = C'' at *
      rw [show (l ++ [c]).length + w.length = (l ++ [c] ++ w).length by simp; omega] at hp
      conv => whnf
      refine Sm.ofW ?_
      conv => whnf
      exact ⟨i + 1, by (show T.length - (i + 1) < T.length - i); omega, subK_ok (by refine ⟨rfl, rfl, rfl, rfl, congrArg (fun x => some (Value.int .i64 x)) (show IntKind.i64.wrap ((i : Int) + 1) = ((i + 1 : Nat) : Int) by rw [wi64 (by omega) (by omega)]; omega), trivial⟩), by omega, C'', l ++ [c] ++ w, hl2.symm, k3, by omega, hp⟩
    · have hc : i = T.length := by have : ¬ (i : Int) < ((T.length : Nat) : Int) := of_decide_eq_false hc; omega
      subst hc
      rw [List.take_length] at hl
      have hl : l = joinL c (x :: T) := hl
      have hTne : T ≠ [] := fun e => by rw [e] at hm; simp at hm; omega
      have hlne : l ≠ [] := fun e => by
        have := congrArg List.length hl
        rw [e, ← hN2] at this
        obtain ⟨t, T', rfl⟩ := List.exists_cons_of_ne_nil hTne
        simp at this hNT
        omega
      conv => whnf
      refine Sm.seqW ?_
      conv => whnf
      refine stringC_spec hp .here .here hC1 hlne (by rw [hl]; exact hb) (by rw [hl, hN2]; exact Nat.le_refl _) ?_
      clear hp
      intro s' hp
      conv => whnf
      refine Sm.ofW ?_
      conv => whnf
      exact ⟨hp.fr, by rw [hl]; rfl⟩
end Go.Ev
end

/- Lines of an entry in memory; kinds of accounts. No condition. -/
noncomputable section
namespace Go.Ev
open Go.Proofs
variable [Lk]
set_option linter.unusedSectionVars false
set_option linter.unusedVariables false
set_option maxRecDepth 100000

def Ln.cells (x : Ln) : List Value := [.int .i64 x.acct, .bool x.amt.neg, .int .u64 ((x.amt.c % w64 : Nat) : Int), .int .u64 ((x.amt.c / w64 : Nat) : Int), .int .i64 x.amt.scale, .int .i64 x.wth]
def Ln.val (x : Ln) : Value := .agg #[.int .i64 x.acct, .bool x.amt.neg, .int .u64 ((x.amt.c % w64 : Nat) : Int), .int .u64 ((x.amt.c / w64 : Nat) : Int), .int .i64 x.amt.scale, .int .i64 x.wth]
def lnC (ls : List Ln) : List Value := (ls.map Ln.cells).flatten
theorem lnC_cons (t : Ln) (ts : List Ln) : lnC (t :: ts) = t.cells ++ lnC ts := by simp [lnC]
theorem lnC_app (a b : List Ln) : lnC (a ++ b) = lnC a ++ lnC b := by simp [lnC]
theorem lnC_at : ∀ {ts : List Ln} {i : Nat} (h : i < ts.length), ((lnC ts).drop (i * 6)).take 6 = ts[i].cells
  | t :: ts, 0, _ => rfl
  | t :: ts, i + 1, h => by
    have := lnC_at (ts := ts) (i := i) (by simpa using h)
    rw [lnC_cons, show (i + 1) * 6 = 6 + i * 6 by omega, ← List.drop_drop]
    exact this
theorem LT : SlT Tryz.prog 24 35 6 48 Ln.zero.val := ⟨Tryz.underlying24, ⟨_, rfl, rfl, rfl, rfl⟩, rfl, rfl, by decide, by decide⟩
abbrev Sln (s : St) (κ : Option Nat) (v : Value) (ls : List Ln) : Prop := Sl s κ v 6 ls.length (lnC ls)
theorem index_ln {s : St} {κ : Option Nat} {v : Value} {l : List Ln} (h : Sln s κ v l) (k : IntKind) {i : Nat} (hi : i < l.length) :
    ∃ a, evIndexAddr Tryz.prog 24 v (.int k (i : Int)) = some (.pointer (some a)) ∧ evLoad Tryz.prog 35 (.pointer (some a)) s = some l[i].val := by
  obtain ⟨a, e1, e2⟩ := index_slN LT Tryz.underlying35 h k hi
  rw [lnC_at hi] at e2
  exact ⟨a, e1, e2⟩
def kindF (a : Int) : Int := if a < 0 ∨ 16 ≤ a then 0 else if a ≤ 3 then 1 else if a ≤ 6 then 2 else if a ≤ 8 then 3 else 4
theorem kindF_0 {a : Int} : kindF a = 0 ↔ ¬ (0 ≤ a ∧ a < 16) := by
  unfold kindF
  constructor
  · intro h g
    rw [if_neg (by omega)] at h
    split at h
    · cases h
    · split at h
      · cases h
      · split at h <;> cases h
  · intro h; rw [if_pos (by omega)]
theorem kind_spec (s : St) (a : Int) : Cw Tryz.prog 97 [.int .i64 a] s fun r s' => s' = s ∧ r = .int .i64 (kindF a) := by
  refine Cw.enterS Tryz.func97 rfl rfl ?_
  refine Sm.seqW ?_
  conv => whnf
  refine Sm.live [0] ?_
  conv => whnf
  refine Sm.ofW ?_
  conv => whnf
  repeat' (first | (refine Br.yes (by first | with_reducible rfl | with_reducible assumption) ?_; conv => whnf) | (refine Br.no (by first | with_reducible rfl | with_reducible assumption) ?_; conv => whnf) | (refine Br.mk (fun hq => ?_) (fun hq => ?_) <;> conv => whnf))
  all_goals refine ⟨rfl, congrArg (Value.int .i64) ?_⟩
  all_goals unfold kindF
  all_goals simp only [decide_eq_true_eq, decide_eq_false_iff_not] at *
  all_goals (first | (rw [if_pos (by omega)]) | (rw [if_neg (by omega)]; first | (rw [if_pos (by omega)]) | (rw [if_neg (by omega)]; first | (rw [if_pos (by omega)]) | (rw [if_neg (by omega)]; first | (rw [if_pos (by omega)]) | (rw [if_neg (by omega)])))))
theorem isWith_spec (s : St) (a : Int) : Cw Tryz.prog 98 [.int .i64 a] s fun r s' => s' = s ∧ r = .bool (isWithF a) := by
  refine Cw.enterS Tryz.func98 rfl rfl ?_
  refine Sm.seqW ?_
  conv => whnf
  refine Sm.live [0] ?_
  conv => whnf
  refine Sm.ofW ?_
  conv => whnf
  repeat' (first | (refine Br.yes (by first | with_reducible rfl | with_reducible assumption) ?_; conv => whnf) | (refine Br.no (by first | with_reducible rfl | with_reducible assumption) ?_; conv => whnf) | (refine Br.mk (fun hq => ?_) (fun hq => ?_) <;> conv => whnf))
  all_goals refine ⟨rfl, congrArg Value.bool ?_⟩
  all_goals unfold isWithF
  all_goals (first | assumption | simp_all)
end Go.Ev
end

/- entry.short, needless and one walked. No condition. -/
noncomputable section
namespace Go.Ev
open Go.Proofs
variable [Lk]
set_option linter.unusedSectionVars false
set_option linter.unusedVariables false
set_option maxRecDepth 100000

theorem small_iff {l : List UInt8} : (¬ smallF l < 0) ↔ ∃ j, j < 100 ∧ l = itoaF j := by
  constructor
  · intro h
    obtain ⟨k, h1, h2, _⟩ := smallF_ok h
    exact ⟨k, h1, h2⟩
  · rintro ⟨j, h1, h2⟩ h
    exact smallF_no h j h1 h2
theorem eshort_spec {z : St} (wf : WF z) (hg : Gs z) (l : List UInt8) (hl : l.length ≤ 281474976710656) :
    Cw Tryz.prog 101 [sv l] z fun r s' => K0 z s' ∧ ∃ n : Int, r = .tuple #[.int .i64 n, .bool (decide (¬ smallF l < 0))] ∧ (¬ smallF l < 0 → n = smallF l) := by
  have hp : Hp (fun _ => False) z [] [] z := Hp.start _ wf _ (by simp)
  refine Cw.enterS Tryz.func101 rfl rfl ?_
  refine Sm.seqW ?_
  conv => whnf
  refine Sm.live [0] ?_
  conv => whnf
  refine Sm.seqW ?_
  conv => whnf
  refine hp.call (atoi2_spec hp.wf hg l hl) ?_
  clear hp
  rintro _ s ⟨n, e, rfl, hn, he, hk⟩ hp _
  have fin : ∀ b : Bool, (b = true ↔ ∃ j, j < 100 ∧ l = itoaF j) → (∃ n' : Int, Value.tuple #[.int .i64 n, .bool b] = .tuple #[.int .i64 n', .bool (decide (¬ smallF l < 0))] ∧ (¬ smallF l < 0 → n' = smallF l)) := by
    intro b hb
    have e1 : b = decide (¬ smallF l < 0) := by rw [Bool.eq_iff_iff, hb, decide_eq_true_iff]; exact small_iff.symm
    refine ⟨n, by rw [e1], fun h => ?_⟩
    obtain ⟨k, h1, h2, h3⟩ := smallF_ok h
    rw [h3]; exact (hk k h1 h2).1
  conv => whnf
  refine Sm.live [0, 4, 5] ?_
  conv => whnf
  refine Sm.seqW ?_
  conv => whnf
  rcases he with rfl | ⟨v, rfl⟩
  · refine Om.of (.bool true) (by kernel_rfl) ?_
    conv => whnf
    by_cases h1 : 0 ≤ n
    · have q1 : decide (n ≥ 0) = true := decide_eq_true h1
      by_cases h2 : n < 100
      · have q2 : decide (n < 100) = true := decide_eq_true h2
        obtain ⟨k, rfl⟩ : ∃ k : Nat, n = k := ⟨n.toNat, by omega⟩
        repeat (first | (refine Br.yes q1 ?_; conv => whnf) | (refine Br.yes q2 ?_; conv => whnf) | (first | (refine Br.yes (by first | with_reducible rfl | with_reducible exact beq_self_eq_true _ | rfl) ?_; conv => whnf) | (refine Br.no (by first | with_reducible rfl | with_reducible exact bne_self_eq_false _ | rfl) ?_; conv => whnf)))
        refine (itoa2_spec _ (show k < 100 by omega)).mono ?_
        rintro _ s1 ⟨h1, rfl⟩
        obtain rfl := h1.symm
        conv => whnf
        repeat (first | (refine Br.yes q1 ?_; conv => whnf) | (refine Br.yes q2 ?_; conv => whnf) | (first | (refine Br.yes (by first | with_reducible rfl | with_reducible exact beq_self_eq_true _ | rfl) ?_; conv => whnf) | (refine Br.no (by first | with_reducible rfl | with_reducible exact bne_self_eq_false _ | rfl) ?_; conv => whnf)))
        refine Om.of _ (sv_eq (itoaF k) l) ?_
        conv => whnf
        repeat (first | (refine Br.yes q1 ?_; conv => whnf) | (refine Br.yes q2 ?_; conv => whnf) | (first | (refine Br.yes (by first | with_reducible rfl | with_reducible exact beq_self_eq_true _ | rfl) ?_; conv => whnf) | (refine Br.no (by first | with_reducible rfl | with_reducible exact bne_self_eq_false _ | rfl) ?_; conv => whnf)))
        refine Sm.live [2, 3] ?_
        conv => whnf
        refine Sm.ofW ?_
        conv => whnf
        refine ⟨hp.fr, fin _ ?_⟩
        rw [beq_iff_eq]
        constructor
        · intro h; exact ⟨k, by omega, h.symm⟩
        · rintro ⟨j, h3, h4⟩
          have := (hk j h3 h4).1
          have : k = j := Int.ofNat.inj this
          subst this
          exact h4.symm
      · have q2 : decide (n < 100) = false := decide_eq_false h2
        repeat (first | (refine Br.yes q1 ?_; conv => whnf) | (refine Br.no q2 ?_; conv => whnf) | (first | (refine Br.yes (by first | with_reducible rfl | with_reducible exact beq_self_eq_true _ | rfl) ?_; conv => whnf) | (refine Br.no (by first | with_reducible rfl | with_reducible exact bne_self_eq_false _ | rfl) ?_; conv => whnf)))
        refine Sm.live [2, 3] ?_
        conv => whnf
        refine Sm.ofW ?_
        conv => whnf
        exact ⟨hp.fr, fin _ ⟨fun h => (by cases h), fun ⟨j, h3, h4⟩ => by have := (hk j h3 h4).1; omega⟩⟩
    · have q1 : decide (n ≥ 0) = false := decide_eq_false h1
      repeat (first | (refine Br.no q1 ?_; conv => whnf) | (first | (refine Br.yes (by first | with_reducible rfl | with_reducible exact beq_self_eq_true _ | rfl) ?_; conv => whnf) | (refine Br.no (by first | with_reducible rfl | with_reducible exact bne_self_eq_false _ | rfl) ?_; conv => whnf)))
      refine Sm.live [2, 3] ?_
      conv => whnf
      refine Sm.ofW ?_
      conv => whnf
      exact ⟨hp.fr, fin _ ⟨fun h => (by cases h), fun ⟨j, h3, h4⟩ => by have := (hk j h3 h4).1; omega⟩⟩
  · refine Om.of (.bool false) (by rfl) ?_
    conv => whnf
    repeat (first | (refine Br.yes (by first | with_reducible rfl | with_reducible exact beq_self_eq_true _ | rfl) ?_; conv => whnf) | (refine Br.no (by first | with_reducible rfl | with_reducible exact bne_self_eq_false _ | rfl) ?_; conv => whnf))
    refine Sm.live [2, 3] ?_
    conv => whnf
    refine Sm.ofW ?_
    conv => whnf
    exact ⟨hp.fr, fin _ ⟨fun h => (by cases h), fun ⟨j, h3, h4⟩ => by have := (hk j h3 h4).2; cases this⟩⟩
def trimF1 (l p : List UInt8) : List UInt8 := if hasP l p = true then l.drop p.length else l
theorem trimPre_spec (s : St) (l p : List UInt8) : Cw Tryz.prog 131 [sv l, sv p] s fun r s' => s' = s ∧ r = sv (trimF1 l p) := by
  have h1 : Cw Tryz.prog 149 [sv l, sv p] s fun r s' => s' = s ∧ r = sv (trimF1 l p) := by
    refine Cw.enterS Tryz.func149 rfl rfl ?_
    refine Sm.seqW ?_
    conv => whnf
    refine Sm.live [0, 1] ?_
    conv => whnf
    refine Sm.seq ?_
    refine Sm.seqW ?_
    conv => whnf
    refine (hasPrefix_spec _ l p).mono ?_
    rintro _ s1 ⟨h1, rfl⟩
    obtain rfl := h1.symm
    conv => whnf
    refine Sm.live [0, 1, 7] ?_
    conv => whnf
    refine Sm.ofW ?_
    conv => whnf
    unfold trimF1
    cases hq : hasP l p with
    | true =>
      repeat (first | (refine Br.yes (by first | with_reducible rfl | with_reducible exact beq_self_eq_true _ | rfl) ?_; conv => whnf) | (refine Br.no (by first | with_reducible rfl | with_reducible exact bne_self_eq_false _ | rfl) ?_; conv => whnf))
      have hle : p.length ≤ l.length := by
        unfold hasP at hq
        simp only [Bool.and_eq_true, decide_eq_true_eq] at hq
        exact hq.1
      refine Om.of _ (str_drop Tryz.underlying9 (l := l) (j := p.length) .i64 hle) ?_
      conv => whnf
      exact ⟨rfl, by rw [if_pos rfl]; rfl⟩
    | false =>
      repeat (first | (refine Br.yes (by first | with_reducible rfl | with_reducible exact beq_self_eq_true _ | rfl) ?_; conv => whnf) | (refine Br.no (by first | with_reducible rfl | with_reducible exact bne_self_eq_false _ | rfl) ?_; conv => whnf))
      refine Sm.seqW ?_
      conv => whnf
      refine Sm.live [4] ?_
      conv => whnf
      refine Sm.ofW ?_
      conv => whnf
      exact ⟨rfl, by rw [if_neg (by decide)]; rfl⟩
  refine Cw.enterS Tryz.func131 rfl rfl ?_
  refine Sm.seqW ?_
  conv => whnf
  refine Sm.live [0, 1] ?_
  conv => whnf
  refine Sm.seqW ?_
  conv => whnf
  refine h1.mono ?_
  rintro _ s1 ⟨h1, rfl⟩
  obtain rfl := h1.symm
  conv => whnf
  refine Sm.live [4] ?_
  conv => whnf
  refine Sm.ofW ?_
  conv => whnf
  exact ⟨rfl, rfl⟩
theorem u8_beq48 (c : UInt8) : (((c.toNat : Nat) : Int) == 48) = (c == 48) := by
  rw [Bool.eq_iff_iff, beq_iff_eq, beq_iff_eq]
  exact ⟨fun h => UInt8.toNat_inj.1 (Int.ofNat.inj h), fun h => by rw [h]; rfl⟩
theorem u8_bne46 (c : UInt8) : (!(((c.toNat : Nat) : Int) == 46)) = !(c == 46) := by
  congr 1
  rw [Bool.eq_iff_iff, beq_iff_eq, beq_iff_eq]
  exact ⟨fun h => UInt8.toNat_inj.1 (Int.ofNat.inj h), fun h => by rw [h]; rfl⟩
theorem needless_spec (s : St) (l : List UInt8) : Cw Tryz.prog 103 [sv l] s fun r s' => s' = s ∧ r = .bool (lessN l) := by
  refine Cw.enterS Tryz.func103 rfl rfl ?_
  refine Sm.seqW ?_
  conv => whnf
  refine Sm.live [0] ?_
  conv => whnf
  refine Sm.seqW ?_
  conv => whnf
  refine (trimPre_spec _ l [45]).mono ?_
  rintro _ s1 ⟨h1, rfl⟩
  obtain rfl := h1.symm
  conv => whnf
  have hb : trimF1 l [45] = bodyF l := rfl
  rw [hb]
  refine Sm.live [0] ?_
  conv => whnf
  refine Sm.ofW ?_
  conv => whnf
  unfold lessN
  cases bodyF l with
  | nil =>
    repeat (first | (refine Br.yes (by first | with_reducible rfl | with_reducible exact beq_self_eq_true _ | rfl) ?_; conv => whnf) | (refine Br.no (by first | with_reducible rfl | with_reducible exact bne_self_eq_false _ | rfl) ?_; conv => whnf))
    exact ⟨rfl, rfl⟩
  | cons a r =>
    cases r with
    | nil =>
      repeat (first | (refine Br.yes (by first | with_reducible rfl | with_reducible exact beq_self_eq_true _ | rfl) ?_; conv => whnf) | (refine Br.no (by first | with_reducible rfl | with_reducible exact bne_self_eq_false _ | rfl) ?_; conv => whnf))
      exact ⟨rfl, rfl⟩
    | cons b r =>
      have q : decide ((((bs ⟨(a :: b :: r).toArray⟩).length : Nat) : Int) > 1) = true := decide_eq_true (by show (((a :: b :: r).length : Nat) : Int) > 1; simp only [List.length_cons]; omega)
      repeat (first | (refine Br.yes q ?_; conv => whnf) | (first | (refine Br.yes (by first | with_reducible rfl | with_reducible exact beq_self_eq_true _ | rfl) ?_; conv => whnf) | (refine Br.no (by first | with_reducible rfl | with_reducible exact bne_self_eq_false _ | rfl) ?_; conv => whnf)))
      refine Om.of _ (str_index Tryz.underlying9 (l := a :: b :: r) (i := 0) (by simp) .i64) ?_
      conv => whnf
      have e1 : ((((a :: b :: r)[0]'(by simp)).toNat : Nat) : Int) = ((a.toNat : Nat) : Int) := rfl
      repeat (first | (refine Br.yes q ?_; conv => whnf) | (first | (refine Br.yes (by first | with_reducible rfl | with_reducible exact beq_self_eq_true _ | rfl) ?_; conv => whnf) | (refine Br.no (by first | with_reducible rfl | with_reducible exact bne_self_eq_false _ | rfl) ?_; conv => whnf)))
      rw [e1, u8_beq48]
      repeat (first | (refine Br.yes q ?_; conv => whnf) | (first | (refine Br.yes (by first | with_reducible rfl | with_reducible exact beq_self_eq_true _ | rfl) ?_; conv => whnf) | (refine Br.no (by first | with_reducible rfl | with_reducible exact bne_self_eq_false _ | rfl) ?_; conv => whnf)))
      cases h48 : a == 48 with
      | true =>
        repeat (first | (refine Br.yes h48 ?_; conv => whnf) | (first | (refine Br.yes (by first | with_reducible rfl | with_reducible exact beq_self_eq_true _ | rfl) ?_; conv => whnf) | (refine Br.no (by first | with_reducible rfl | with_reducible exact bne_self_eq_false _ | rfl) ?_; conv => whnf)))
        refine Om.of _ (str_index Tryz.underlying9 (l := a :: b :: r) (i := 1) (by simp) .i64) ?_
        conv => whnf
        have e2 : ((((a :: b :: r)[1]'(by simp)).toNat : Nat) : Int) = ((b.toNat : Nat) : Int) := rfl
        repeat (first | (refine Br.yes h48 ?_; conv => whnf) | (first | (refine Br.yes (by first | with_reducible rfl | with_reducible exact beq_self_eq_true _ | rfl) ?_; conv => whnf) | (refine Br.no (by first | with_reducible rfl | with_reducible exact bne_self_eq_false _ | rfl) ?_; conv => whnf)))
        exact ⟨rfl, congrArg Value.bool (by show (!(((b.toNat : Nat) : Int) == 46)) = (a == 48 && !(b == 46)); rw [h48, Bool.true_and]; exact u8_bne46 b)⟩
      | false =>
        repeat (first | (refine Br.no h48 ?_; conv => whnf) | (first | (refine Br.yes (by first | with_reducible rfl | with_reducible exact beq_self_eq_true _ | rfl) ?_; conv => whnf) | (refine Br.no (by first | with_reducible rfl | with_reducible exact bne_self_eq_false _ | rfl) ?_; conv => whnf)))
        exact ⟨rfl, congrArg Value.bool (by show false = (a == 48 && !(b == 46)); rw [h48]; rfl)⟩
theorem cut_val (l : List UInt8) (c : UInt8) : cutF l c = .tuple #[sv (cut1 c l), sv (cut2 c l), .bool (cutQ c l)] := by
  unfold cutF cut1 cut2 cutQ
  show (match idxL c.toNat l 0 with
    | some i => Value.tuple #[sv (l.take i), sv (l.drop (i + 1)), .bool true]
    | none => .tuple #[sv l, sv [], .bool false]) = _
  cases idxL c.toNat l 0 <;> rfl
theorem cut1_len (c : UInt8) (l : List UInt8) : (cut1 c l).length ≤ l.length := by
  unfold cut1; split <;> simp; omega
theorem cut2_len (c : UInt8) (l : List UInt8) : (cut2 c l).length ≤ l.length := by
  unfold cut2; split <;> simp
theorem readD_c (l : List UInt8) : (readD l).1.c < w128 := by
  unfold readD
  split
  · decide
  · split
    · decide
    · split
      · decide
      · rename_i h _
        exact Nat.lt_trans (Nat.lt_of_not_le h) (by decide)
theorem one_spec {z : St} (wf : WF z) (hg : Gs z) (l : List UInt8) (hl : l.length ≤ 281474976710656) :
    Cw Tryz.prog 59 [sv l] z fun r s' => K0 z s' ∧ r = .tuple #[(oneF l).1.val, .int .i64 (oneF l).2] := by
  have hp : Hp (fun _ => False) z [] [] z := Hp.start _ wf _ (by simp)
  have hA := cut1_len 58 l
  have hR := cut2_len 58 l
  have hB := cut1_len 64 (cut2 58 l)
  have hW := cut2_len 64 (cut2 58 l)
  have hone : oneF l = (if (!cutQ 58 l || (decide (smallF (cut1 58 l) < 0) || (cutQ 64 (cut2 58 l) && decide (smallF (cut2 64 (cut2 58 l)) < 0)))) = true then (Ln.zero, 2) else
    if (((readD (cut1 64 (cut2 58 l))).2 == 0 && !(printF (readD (cut1 64 (cut2 58 l))).1 == cut1 64 (cut2 58 l))) || lessN (cut1 64 (cut2 58 l))) = true then (Ln.zero, 2) else
    (⟨smallF (cut1 58 l), (readD (cut1 64 (cut2 58 l))).1, if cutQ 64 (cut2 58 l) = true then smallF (cut2 64 (cut2 58 l)) else -1⟩, (readD (cut1 64 (cut2 58 l))).2)) := rfl
  rw [hone]
  clear hone
  refine Cw.enterS Tryz.func59 rfl rfl ?_
  refine Sm.seqW ?_
  conv => whnf
  refine hp.alloc (cs := Ln.zero.cells) (e := 6) rfl rfl rfl rfl rfl ?_
  clear hp
  intro p2 s hp _
  conv => whnf
  refine Sm.live [0, 2] ?_
  conv => whnf
  refine Sm.seqW ?_
  conv => whnf
  refine (cut_spec _ l (by omega) 58).mono ?_
  rintro _ s1 ⟨h1, rfl⟩
  obtain rfl := h1.symm
  conv => whnf
  rw [cut_val]
  generalize cut1 58 l = A at *
  generalize cut2 58 l = R at *
  generalize cutQ 58 l = qA at *
  conv => whnf
  refine Sm.live [2, 4, 5, 6] ?_
  conv => whnf
  refine Sm.seqW ?_
  conv => whnf
  refine (cut_spec _ R (by omega) 64).mono ?_
  rintro _ s1 ⟨h1, rfl⟩
  obtain rfl := h1.symm
  conv => whnf
  rw [cut_val]
  generalize cut1 64 R = B at *
  generalize cut2 64 R = W at *
  generalize cutQ 64 R = qW at *
  conv => whnf
  refine Sm.live [2, 4, 6, 7, 8, 9] ?_
  conv => whnf
  refine Sm.seqW ?_
  conv => whnf
  refine hp.alloc (cs := Ln.zero.cells) (e := 6) rfl rfl rfl rfl rfl ?_
  clear hp
  intro p10 s hp _
  conv => whnf
  refine hp.storeW (vs := (Ln.mk 0 Dc.zero (-1)).cells) rfl (by repeat (first | exact Rm.here | apply Rm.there)) (by first | exact C2_same _ _ _ _ | exact C4_same _ _ _ _ _ _ _ _ | exact Dc_same _ _ | rfl) rfl rfl rfl ?_
  clear hp
  intro s hp _
  conv => whnf
  refine Sm.live [2, 4, 6, 7, 8, 9, 10] ?_
  conv => whnf
  refine Sm.seqW ?_
  conv => whnf
  refine Sm.live [2, 4, 6, 7, 8, 9, 10, 12] ?_
  conv => whnf
  refine Sm.seqW ?_
  conv => whnf
  refine hp.call (eshort_spec hp.wf (hg.keep hp.fr) A (by omega)) ?_
  clear hp
  rintro _ s ⟨n, rfl, hn⟩ hp _
  conv => whnf
  refine hp.store (off := 0) (by repeat (first | exact Rm.here | apply Rm.there)) (by show 0 < 6; decide) rfl rfl rfl rfl ?_
  clear hp
  intro s hp _
  replace hp : Hp (fun _ => False) z [] [blkA p10 p10 (Ln.mk n Dc.zero (-1)).cells 6, blkA p2 p2 Ln.zero.cells 6] s := hp
  conv => whnf
  refine Sm.live [2, 6, 7, 8, 9, 10, 11, 12] ?_
  conv => whnf
  refine Sm.seqC (fun e L' s' => e = .normal ∧ ∃ w b, Hp (fun _ => False) z [] [blkA p10 p10 (Ln.mk n Dc.zero w).cells 6, blkA p2 p2 Ln.zero.cells 6] s' ∧ (qW = true → b = decide (¬ smallF W < 0) ∧ (b = true → w = smallF W)) ∧ (qW = false → w = -1) ∧ Sub [(2, .pointer (some ⟨p2, 0, none⟩)), (6, .bool qA), (7, sv B), (9, .bool qW), (10, .pointer (some ⟨p10, 0, none⟩)), (11, .bool (decide (¬ smallF A < 0))), (12, .bool b)] L') ?_ ?_
  · conv => whnf
    cases qW with
    | true =>
      repeat (first | (refine Br.yes (by first | with_reducible rfl | with_reducible exact beq_self_eq_true _ | rfl) ?_; conv => whnf) | (refine Br.no (by first | with_reducible rfl | with_reducible exact bne_self_eq_false _ | rfl) ?_; conv => whnf))
      refine hp.call (eshort_spec hp.wf (hg.keep hp.fr) W (by omega)) ?_
      clear hp
      rintro _ s ⟨w, rfl, hw⟩ hp _
      conv => whnf
      refine hp.store (off := 5) (by repeat (first | exact Rm.here | apply Rm.there)) (by show 5 < 6; decide) rfl rfl rfl rfl ?_
      clear hp
      intro s hp _
      replace hp : Hp (fun _ => False) z [] [blkA p10 p10 (Ln.mk n Dc.zero w).cells 6, blkA p2 p2 Ln.zero.cells 6] s := hp
      conv => whnf
      exact ⟨rfl, w, _, hp, fun _ => ⟨rfl, fun h => hw (of_decide_eq_true h)⟩, fun h => (by cases h), subK_ok ⟨rfl, rfl, rfl, rfl, rfl, rfl, rfl, trivial⟩⟩
    | false =>
      repeat (first | (refine Br.yes (by first | with_reducible rfl | with_reducible exact beq_self_eq_true _ | rfl) ?_; conv => whnf) | (refine Br.no (by first | with_reducible rfl | with_reducible exact bne_self_eq_false _ | rfl) ?_; conv => whnf))
      exact ⟨rfl, -1, false, hp, fun h => (by cases h), fun _ => rfl, subK_ok ⟨rfl, rfl, rfl, rfl, rfl, rfl, rfl, trivial⟩⟩
  clear hp
  rintro e L' s ⟨rfl, w, b, hp, hb, hw1, hs⟩
  refine Sm.weak _ hs ?_
  clear hs
  obtain ⟨bad, hbad⟩ : ∃ bad, bad = (!qA || (decide (smallF A < 0) || (qW && decide (smallF W < 0)))) := ⟨_, rfl⟩
  rw [← hbad]
  refine Sm.seq ?_
  refine Sm.seqC (fun e L' s' => e = .normal ∧ s' = s ∧ Sub [(2, .pointer (some ⟨p2, 0, none⟩)), (7, sv B), (10, .pointer (some ⟨p10, 0, none⟩)), (52, .bool bad)] L') ?_ ?_
  · conv => whnf
    repeat' (first | (refine Br.yes (by first | with_reducible rfl | with_reducible assumption) ?_; conv => whnf) | (refine Br.no (by first | with_reducible rfl | with_reducible assumption) ?_; conv => whnf) | (refine Br.mk (fun hq => ?_) (fun hq => ?_) <;> conv => whnf))
    all_goals refine ⟨rfl, rfl, subK_ok ⟨rfl, rfl, rfl, congrArg (fun x => some (Value.bool x)) ?_, trivial⟩⟩
    all_goals rw [hbad]
    all_goals simp_all
    all_goals (rw [Bool.eq_iff_iff]; simp; omega)
  rintro e L' s' ⟨rfl, rfl, hs⟩
  refine Sm.weak _ hs ?_
  clear hs
  refine Sm.ofW ?_
  conv => whnf
  cases bad with
  | true =>
    repeat (first | (refine Br.yes (by first | with_reducible rfl | with_reducible exact beq_self_eq_true _ | rfl) ?_; conv => whnf) | (refine Br.no (by first | with_reducible rfl | with_reducible exact bne_self_eq_false _ | rfl) ?_; conv => whnf))
    refine hp.storeW (vs := Ln.zero.cells) rfl (by repeat (first | exact Rm.here | apply Rm.there)) (by first | exact C2_same _ _ _ _ | exact C4_same _ _ _ _ _ _ _ _ | exact Dc_same _ _ | rfl) rfl rfl rfl ?_
    clear hp
    intro s hp _
    conv => whnf
    refine hp.loadA (l := Ln.zero.cells) (by repeat (first | exact Has.here | apply Has.there | (apply Has.swap; repeat (first | exact HasR.here | apply HasR.there)))) rfl (by rfl) rfl rfl ?_
    conv => whnf
    exact ⟨hp.fr, by rw [if_pos rfl]; rfl⟩
  | false =>
    rw [if_neg (by decide)]
    have hA0 : ¬ smallF A < 0 := by
      intro h
      rw [decide_eq_true h] at hbad; simp at hbad
    have hn := hn hA0
    subst hn
    have hwv : w = if qW = true then smallF W else -1 := by
      cases qW with
      | false => rw [if_neg (by decide)]; exact hw1 rfl
      | true =>
        rw [if_pos rfl]
        have hW0 : ¬ smallF W < 0 := by
          intro h
          rw [decide_eq_true h] at hbad; simp at hbad
        exact (hb rfl).2 (by rw [(hb rfl).1]; exact decide_eq_true hW0)
    rw [← hwv]
    clear hb hw1 hbad hwv
    repeat (first | (refine Br.yes (by first | with_reducible rfl | with_reducible exact beq_self_eq_true _ | rfl) ?_; conv => whnf) | (refine Br.no (by first | with_reducible rfl | with_reducible exact bne_self_eq_false _ | rfl) ?_; conv => whnf))
    refine Sm.seqW ?_
    conv => whnf
    refine Sm.live [2, 7, 10] ?_
    conv => whnf
    refine Sm.seqW ?_
    conv => whnf
    refine hp.call (read_spec hp.wf B (by omega)) ?_
    clear hp
    rintro _ s rfl hp _
    conv => whnf
    rw [readF_D]
    have hdc := readD_c B
    generalize readD B = d at *
    obtain ⟨d, e⟩ := d
    simp only at hdc ⊢
    conv => whnf
    refine hp.storeA (off := 1) (vs := d.cells) rfl (by repeat (first | exact Rm.here | apply Rm.there)) (by show 1 + 4 ≤ 6; decide) rfl rfl rfl ?_
    clear hp
    intro s hp _
    replace hp : Hp (fun _ => False) z [] [blkA p10 p10 (Ln.mk (smallF A) d w).cells 6, blkA p2 p2 Ln.zero.cells 6] s := hp
    conv => whnf
    refine Sm.live [2, 7, 10, 13] ?_
    conv => whnf
    refine Sm.seq ?_
    refine Sm.seqC (fun e' L' s' => e' = .normal ∧ Hp (fun _ => False) z [] [blkA p10 p10 (Ln.mk (smallF A) d w).cells 6, blkA p2 p2 Ln.zero.cells 6] s' ∧ Sub [(2, .pointer (some ⟨p2, 0, none⟩)), (10, .pointer (some ⟨p10, 0, none⟩)), (13, .int .i64 e), (72, .bool ((e == 0 && !(printF d == B)) || lessN B))] L') ?_ ?_
    · conv => whnf
      cases he : e == 0 with
      | true =>
        repeat (first | (refine Br.yes he ?_; conv => whnf) | (first | (refine Br.yes (by first | with_reducible rfl | with_reducible exact beq_self_eq_true _ | rfl) ?_; conv => whnf) | (refine Br.no (by first | with_reducible rfl | with_reducible exact bne_self_eq_false _ | rfl) ?_; conv => whnf)))
        refine hp.loadA (l := d.cells) (by repeat (first | exact Has.here | apply Has.there | (apply Has.swap; repeat (first | exact HasR.here | apply HasR.there)))) rfl (by rfl) rfl rfl ?_
        conv => whnf
        repeat (first | (refine Br.yes he ?_; conv => whnf) | (first | (refine Br.yes (by first | with_reducible rfl | with_reducible exact beq_self_eq_true _ | rfl) ?_; conv => whnf) | (refine Br.no (by first | with_reducible rfl | with_reducible exact bne_self_eq_false _ | rfl) ?_; conv => whnf)))
        refine hp.call (print_spec hp.wf d hdc) ?_
        clear hp
        rintro _ s rfl hp _
        conv => whnf
        repeat (first | (refine Br.yes he ?_; conv => whnf) | (first | (refine Br.yes (by first | with_reducible rfl | with_reducible exact beq_self_eq_true _ | rfl) ?_; conv => whnf) | (refine Br.no (by first | with_reducible rfl | with_reducible exact bne_self_eq_false _ | rfl) ?_; conv => whnf)))
        refine Om.of _ (sv_ne (printF d) B) ?_
        conv => whnf
        cases hq : printF d == B with
        | true =>
          repeat (first | (refine Br.yes he ?_; conv => whnf) | (first | (refine Br.yes (by first | with_reducible rfl | with_reducible exact beq_self_eq_true _ | rfl) ?_; conv => whnf) | (refine Br.no (by first | with_reducible rfl | with_reducible exact bne_self_eq_false _ | rfl) ?_; conv => whnf)))
          refine (needless_spec _ B).mono ?_
          rintro _ s1 ⟨h1, rfl⟩
          obtain rfl := h1.symm
          conv => whnf
          repeat (first | (refine Br.yes he ?_; conv => whnf) | (first | (refine Br.yes (by first | with_reducible rfl | with_reducible exact beq_self_eq_true _ | rfl) ?_; conv => whnf) | (refine Br.no (by first | with_reducible rfl | with_reducible exact bne_self_eq_false _ | rfl) ?_; conv => whnf)))
          exact ⟨rfl, hp, subK_ok ⟨rfl, rfl, rfl, rfl, trivial⟩⟩
        | false =>
          repeat (first | (refine Br.yes he ?_; conv => whnf) | (first | (refine Br.yes (by first | with_reducible rfl | with_reducible exact beq_self_eq_true _ | rfl) ?_; conv => whnf) | (refine Br.no (by first | with_reducible rfl | with_reducible exact bne_self_eq_false _ | rfl) ?_; conv => whnf)))
          exact ⟨rfl, hp, subK_ok ⟨rfl, rfl, rfl, rfl, trivial⟩⟩
      | false =>
        repeat (first | (refine Br.no he ?_; conv => whnf) | (first | (refine Br.yes (by first | with_reducible rfl | with_reducible exact beq_self_eq_true _ | rfl) ?_; conv => whnf) | (refine Br.no (by first | with_reducible rfl | with_reducible exact bne_self_eq_false _ | rfl) ?_; conv => whnf)))
        refine (needless_spec _ B).mono ?_
        rintro _ s1 ⟨h1, rfl⟩
        obtain rfl := h1.symm
        conv => whnf
        repeat (first | (refine Br.no he ?_; conv => whnf) | (first | (refine Br.yes (by first | with_reducible rfl | with_reducible exact beq_self_eq_true _ | rfl) ?_; conv => whnf) | (refine Br.no (by first | with_reducible rfl | with_reducible exact bne_self_eq_false _ | rfl) ?_; conv => whnf)))
        exact ⟨rfl, hp, subK_ok ⟨rfl, rfl, rfl, rfl, trivial⟩⟩
    clear hp
    rintro e' L' s ⟨rfl, hp, hs⟩
    refine Sm.weak _ hs ?_
    clear hs
    refine Sm.ofW ?_
    conv => whnf
    cases hq : (e == 0 && !(printF d == B)) || lessN B with
    | true =>
      rw [if_pos rfl]
      repeat (first | (refine Br.yes hq ?_; conv => whnf) | (first | (refine Br.yes (by first | with_reducible rfl | with_reducible exact beq_self_eq_true _ | rfl) ?_; conv => whnf) | (refine Br.no (by first | with_reducible rfl | with_reducible exact bne_self_eq_false _ | rfl) ?_; conv => whnf)))
      refine hp.storeW (vs := Ln.zero.cells) rfl (by repeat (first | exact Rm.here | apply Rm.there)) (by first | exact C2_same _ _ _ _ | exact C4_same _ _ _ _ _ _ _ _ | exact Dc_same _ _ | rfl) rfl rfl rfl ?_
      clear hp
      intro s hp _
      conv => whnf
      refine hp.loadA (l := Ln.zero.cells) (by repeat (first | exact Has.here | apply Has.there | (apply Has.swap; repeat (first | exact HasR.here | apply HasR.there)))) rfl (by rfl) rfl rfl ?_
      conv => whnf
      exact ⟨hp.fr, rfl⟩
    | false =>
      rw [if_neg (by decide)]
      repeat (first | (refine Br.no hq ?_; conv => whnf) | (first | (refine Br.yes (by first | with_reducible rfl | with_reducible exact beq_self_eq_true _ | rfl) ?_; conv => whnf) | (refine Br.no (by first | with_reducible rfl | with_reducible exact bne_self_eq_false _ | rfl) ?_; conv => whnf)))
      refine Sm.seqW ?_
      conv => whnf
      refine hp.loadA (l := (Ln.mk (smallF A) d w).cells) (by repeat (first | exact Has.here | apply Has.there | (apply Has.swap; repeat (first | exact HasR.here | apply HasR.there)))) rfl (by rfl) rfl rfl ?_
      conv => whnf
      refine hp.storeW (vs := (Ln.mk (smallF A) d w).cells) rfl (by repeat (first | exact Rm.here | apply Rm.there)) (by first | exact C2_same _ _ _ _ | exact C4_same _ _ _ _ _ _ _ _ | exact Dc_same _ _ | rfl) rfl rfl rfl ?_
      clear hp
      intro s hp _
      conv => whnf
      refine Sm.live [2, 3] ?_
      conv => whnf
      refine Sm.ofW ?_
      conv => whnf
      refine hp.loadA (l := (Ln.mk (smallF A) d w).cells) (by repeat (first | exact Has.here | apply Has.there | (apply Has.swap; repeat (first | exact HasR.here | apply HasR.there)))) rfl (by rfl) rfl rfl ?_
      conv => whnf
      exact ⟨hp.fr, rfl⟩
end Go.Ev
end

/- entry.Read walked. No condition. -/
noncomputable section
namespace Go.Ev
open Go.Proofs
variable [Lk]
set_option linter.unusedSectionVars false
set_option linter.unusedVariables false
set_option maxRecDepth 100000

/-- The worst of what was read. -/
def worstF (T : List (List UInt8)) : Int := if (T.any fun t => !((oneF t).2 == 0)) = true then 3 else 0
theorem worst_snoc (T : List (List UInt8)) (t : List UInt8) (h : (oneF t).2 ≠ 2) : worstF (T ++ [t]) = if worstF T < (oneF t).2 then (oneF t).2 else worstF T := by
  unfold worstF
  rw [List.any_append, List.any_cons, List.any_nil, Bool.or_false]
  have he : (oneF t).2 = 0 ∨ (oneF t).2 = 3 := by
    rcases oneF_e t with g | g | g
    · exact .inl g
    · exact absurd g h
    · exact .inr g
  cases (T.any fun t => !((oneF t).2 == 0)) with
  | true =>
    rcases he with g | g <;> rw [g] <;> decide
  | false =>
    rcases he with g | g <;> rw [g] <;> decide
theorem readL_len (l : List UInt8) : (readL l).1.length ≤ 8 := by
  unfold readL
  split
  · simp
  · split
    · simp
    · split
      · simp
      · simp; omega
theorem eread_spec {z : St} (wf : WF z) (hg : Gs z) (l : List UInt8) (hl : l.length ≤ 10000000000000) :
    Cw Tryz.prog 19 [sv l] z fun r s' => K0 z s' ∧ ∃ w, r = .tuple #[w, .int .i64 (readL l).2] ∧ OwnN z.next s' w 6 (readL l).1.length (lnC (readL l).1) := by
  have hp : Hp (fun _ => False) z [] [] z := Hp.start _ wf _ (by simp)
  have hml : ∀ w ∈ splitL 44 l, w.length ≤ l.length := fun w hw => mem_split_len hw
  have hread : readL l = (if 8 < (splitL 44 l).length then ([], 2) else
    if ((splitL 44 l).any fun t => (oneF t).2 == 2) = true then ([], 2) else
    if ((splitL 44 l).any fun t => !((oneF t).2 == 0)) = true then ([], 3) else ((splitL 44 l).map fun t => (oneF t).1, 0)) := rfl
  rw [hread]
  clear hread
  refine Cw.enterS Tryz.func19 rfl rfl ?_
  refine Sm.seqW ?_
  conv => whnf
  refine Sm.live [0] ?_
  conv => whnf
  refine Sm.seqW ?_
  conv => whnf
  refine hp.callO (split_spec hp.wf l hl 44) ?_
  clear hp
  intro w κ s hp _
  generalize splitL 44 l = T at *
  obtain ⟨a, cp, rfl⟩ := (hp.slF (κ := κ) (v := w) (by repeat (first | exact Rm.here | apply Rm.there))).shape
  conv => whnf
  refine Sm.live [4] ?_
  conv => whnf
  refine Sm.seq ?_
  refine Sm.seqW ?_
  conv => whnf
  refine Sm.live [4, 15] ?_
  conv => whnf
  refine Sm.ofW ?_
  conv => whnf
  by_cases h8 : 8 < T.length
  · rw [if_pos h8]
    have q : decide (((T.length : Nat) : Int) > 8) = true := decide_eq_true (by omega)
    refine Br.yes q ?_
    conv => whnf
    exact ⟨hp.fr, _, rfl, ⟨.inl ⟨rfl, rfl, rfl⟩⟩⟩
  rw [if_neg h8]
  refine Br.no (decide_eq_false (by omega)) ?_
  conv => whnf
  refine Sm.seqW ?_
  conv => whnf
  refine Sm.live [4, 5] ?_
  conv => whnf
  refine Sm.seqW ?_
  conv => whnf
  refine Sm.live [4, 5, 6] ?_
  conv => whnf
  refine Sm.seq ?_
  refine Sm.seqW ?_
  conv => whnf
  refine Sm.live [5, 6, 16, 17, 18] ?_
  conv => whnf
  refine Sm.block ?_
  refine Sm.loop ?_
  refine Lp.ofS (α := Nat × Option Nat × Value) (fun x => [(5, x.2.2), (6, .int .i64 (worstF (T.take x.1))), (16, .slice a T.length cp), (17, .int .i64 ((T.length : Nat) : Int)), (18, .int .i64 (x.1 : Int))])
    (fun x s' => x.1 ≤ T.length ∧ (∀ t ∈ T.take x.1, (oneF t).2 ≠ 2) ∧ Hp (fun _ => False) z [] [onA x.2.1 x.2.2 6 x.1 (lnC ((T.take x.1).map fun t => (oneF t).1)), onA κ (.slice a T.length cp) 1 T.length (T.map sv)] s') (fun x => T.length - x.1) ?_ (0, none, .slice none 0 0) (subK_ok (by refine ⟨rfl, rfl, rfl, rfl, rfl, trivial⟩)) ⟨Nat.zero_le _, fun t ht => (by cases ht), (hp.nilA 6).pik (by repeat (first | exact Pik.nil | exact Pik.refl _ | exact Rm.here | apply Rm.there | apply Pik.cons | apply Pik.skip))⟩
  clear hp
  rintro ⟨i, κo, vo⟩ s ⟨hi, hno, hp⟩
  simp only at hi hno hp
  refine Sm.seqW ?_
  conv => whnf
  refine Sm.live [5, 6, 16, 17, 18, 19] ?_
  conv => whnf
  refine Sm.seq ?_
  refine Sm.ofW ?_
  conv => whnf
  refine Br.mk (fun hc => ?_) (fun hc => ?_)
  · have hc : i < T.length := by have : (i : Int) < ((T.length : Nat) : Int) := of_decide_eq_true hc; omega
    obtain ⟨e, g1, g2⟩ := index_sv (hp.slF (κ := κ) (v := .slice a T.length cp) (by repeat (first | exact Rm.here | apply Rm.there))) .i64 hc
    have htk : T.take (i + 1) = T.take i ++ [T[i]] := List.take_succ_eq_append_getElem hc
    have hmem : T[i] ∈ T := List.getElem_mem hc
    have hlt := hml _ hmem
    generalize hw : T[i] = t at *
    conv => whnf
    refine Sm.seq ?_
    refine Sm.block ?_
    refine Sm.seqW ?_
    conv => whnf
    refine Om.of _ (g1) ?_
    conv => whnf
    refine Om.of _ (g2) ?_
    conv => whnf
    refine Sm.live [5, 6, 8, 16, 17, 18] ?_
    conv => whnf
    refine Sm.seqW ?_
    conv => whnf
    refine hp.call (one_spec hp.wf (hg.keep hp.fr) t (by omega)) ?_
    clear hp
    rintro _ s rfl hp _
    conv => whnf
    have hwo := worst_snoc (T.take i) t
    refine hp.alloc (cs := Ln.zero.cells) (e := 6) rfl rfl rfl rfl rfl ?_
    clear hp
    intro p9 s hp _
    conv => whnf
    refine hp.storeW (vs := (oneF t).1.cells) rfl (by repeat (first | exact Rm.here | apply Rm.there)) (by first | exact C2_same _ _ _ _ | exact C4_same _ _ _ _ _ _ _ _ | exact Dc_same _ _ | rfl) rfl rfl rfl ?_
    clear hp
    intro s hp _
    conv => whnf
    refine Sm.live [5, 6, 9, 10, 16, 17, 18] ?_
    conv => whnf
    refine Sm.seq ?_
    refine Sm.seqW ?_
    conv => whnf
    refine Sm.ofW ?_
    conv => whnf
    by_cases h2 : (oneF t).2 = 2
    · have q : ((oneF t).2 == 2) = true := beq_iff_eq.2 h2
      refine Br.yes q ?_
      conv => whnf
      have hany : (T.any fun t => (oneF t).2 == 2) = true := List.any_eq_true.2 ⟨t, hmem, q⟩
      rw [if_pos hany]
      exact ⟨hp.fr, _, by rw [h2]; rfl, ⟨.inl ⟨rfl, rfl, rfl⟩⟩⟩
    · have q : ((oneF t).2 == 2) = false := beq_eq_false_iff_ne.2 h2
      refine Br.no q ?_
      conv => whnf
      refine Sm.seqW ?_
      conv => whnf
      refine Sm.live [5, 6, 9, 16, 17, 18] ?_
      conv => whnf
      refine Sm.ofW ?_
      conv => whnf
      refine hp.loadA (l := (oneF t).1.cells) (by repeat (first | exact Has.here | apply Has.there | (apply Has.swap; repeat (first | exact HasR.here | apply HasR.there)))) rfl (by rfl) rfl rfl ?_
      conv => whnf
      refine hp.lit (cs := (oneF t).1.cells) (e := 6) (by rfl) ?_
      clear hp
      intro b4 s4 hp _
      conv => whnf
      have x4 := hp.blkSl (n := 1) (C := (oneF t).1.cells) (k := b4) (b := b4) (e := 6) (by repeat (first | exact Has.here | apply Has.there | (apply Has.swap; repeat (first | exact HasR.here | apply HasR.there)))) rfl
      refine hp.app LT Tryz.underlying24 rfl (κ := κo) (v := vo) (by repeat (first | exact Rm.here | apply Rm.there)) (elems_sl x4) rfl rfl (by omega) ?_
      clear hp x4
      intro v5 κ5 s hp
      have e1 : lnC ((T.take i).map fun t => (oneF t).1) ++ (oneF t).1.cells = lnC ((T.take (i + 1)).map fun t => (oneF t).1) := by
        rw [htk, List.map_append, lnC_app]; simp [lnC]
      rw [e1] at hp
      conv => whnf
      refine Sm.ofW ?_
      conv => whnf
      exact ⟨(i + 1, κ5, v5), by (show T.length - (i + 1) < T.length - i); omega, subK_ok (by refine ⟨rfl, congrArg (fun x => some (Value.int .i64 x)) (by show (if (oneF t).2 > worstF (T.take i) then (oneF t).2 else worstF (T.take i)) = worstF (T.take (i + 1)); rw [htk]; exact (hwo h2).symm), rfl, rfl, congrArg (fun x => some (Value.int .i64 x)) (show IntKind.i64.wrap ((i : Int) + 1) = ((i + 1 : Nat) : Int) by rw [wi64 (by omega) (by omega)]; omega), trivial⟩), by (show i + 1 ≤ T.length); omega, fun t' ht' => by
        have ht' : t' ∈ T.take (i + 1) := ht'
        rw [htk] at ht'
        rcases List.mem_append.1 ht' with g | g
        · exact hno t' g
        · obtain rfl := List.mem_singleton.1 g; exact h2, hp.pik (by repeat (first | exact Pik.nil | exact Pik.refl _ | exact Rm.here | apply Rm.there | apply Pik.cons | apply Pik.skip))⟩
  · have hc : i = T.length := by have : ¬ (i : Int) < ((T.length : Nat) : Int) := of_decide_eq_false hc; omega
    subst hc
    rw [List.take_length] at hno hp
    have hno2 : ¬ (T.any fun t => (oneF t).2 == 2) = true := fun h => by
      obtain ⟨t, h1, h2⟩ := List.any_eq_true.1 h
      exact hno t h1 (beq_iff_eq.1 h2)
    rw [if_neg hno2]
    conv => whnf
    refine Sm.seq ?_
    refine Sm.seqW ?_
    conv => whnf
    refine Sm.ofW ?_
    conv => whnf
    show Br (!(worstF (T.take T.length) == 0)) _ _
    rw [List.take_length]
    unfold worstF
    cases hq : (T.any fun t => !((oneF t).2 == 0)) with
    | true =>
      rw [if_pos rfl]
      repeat (first | (refine Br.yes (by first | with_reducible rfl | with_reducible exact beq_self_eq_true _ | rfl) ?_; conv => whnf) | (refine Br.no (by first | with_reducible rfl | with_reducible exact bne_self_eq_false _ | rfl) ?_; conv => whnf))
      exact ⟨hp.fr, _, rfl, ⟨.inl ⟨rfl, rfl, rfl⟩⟩⟩
    | false =>
      rw [if_neg (by decide)]
      repeat (first | (refine Br.yes (by first | with_reducible rfl | with_reducible exact beq_self_eq_true _ | rfl) ?_; conv => whnf) | (refine Br.no (by first | with_reducible rfl | with_reducible exact bne_self_eq_false _ | rfl) ?_; conv => whnf))
      refine Sm.seqW ?_
      conv => whnf
      refine Sm.live [2, 3] ?_
      conv => whnf
      refine Sm.ofW ?_
      conv => whnf
      refine ⟨hp.fr, vo, rfl, ?_⟩
      have := hp.out (by repeat (first | exact Rm.here | apply Rm.there))
      show OwnN z.next s vo 6 (T.map fun t => (oneF t).1).length (lnC (T.map fun t => (oneF t).1))
      rw [List.length_map]
      exact this
end Go.Ev
end

/- entry.Print and Turned walked. No condition. -/
noncomputable section
namespace Go.Ev
open Go.Proofs
variable [Lk]
set_option linter.unusedSectionVars false
set_option linter.unusedVariables false
set_option maxRecDepth 100000

theorem sv_add {P : Program} {t : TypeId} {c : Bool} (a b : List UInt8) (h : a.length + b.length ≤ 281474976710656) : evBin P .add t c (sv a) (sv b) = some (sv (a ++ b)) := str_add _ _ h
/-- A line whose numbers are small. -/
structure MemLn (x : Ln) : Prop where
  acct : x.acct < 100
  wth : x.wth < 100
  amt : x.amt.c < w128
theorem print_le (d : Dc) : (printF d).length ≤ 32 := by
  cases h : d.right with
  | true => exact print_len h
  | false => rw [print_nil.2 h]; decide
theorem itoa_le (k : Nat) : (itoaF k).length ≤ 2 := by rw [itoaF_len]; split <;> omega
theorem line_le (x : Ln) : (lineT x).length ≤ 38 := by
  have h1 := itoa_le x.acct.toNat
  have h2 := itoa_le x.wth.toNat
  have h3 := print_le x.amt
  unfold lineT
  simp only [List.length_append, List.length_cons]
  split <;> simp <;> omega
theorem lines_le : ∀ ls : List Ln, (joinL 44 (ls.map lineT)).length ≤ 40 * ls.length
  | [] => by simp [joinL]
  | x :: r => by
    have h1 := line_le x
    have : ∀ r : List Ln, ((r.map lineT).flatMap fun w => (44 : UInt8) :: w).length ≤ 39 * r.length := by
      intro r
      induction r with
      | nil => simp
      | cons y r ih =>
        have := line_le y
        simp only [List.map_cons, List.flatMap_cons, List.length_append, List.length_cons]; omega
    have h2 := this r
    show (lineT x ++ ((r.map lineT).flatMap fun w => (44 : UInt8) :: w)).length ≤ _
    simp only [List.length_append, List.length_cons]; omega
theorem eprint_spec {z : St} (wf : WF z) {κ : Option Nat} {v : Value} {ls : List Ln} (hv : Sln z κ v ls) (hok : ∀ x ∈ ls, MemLn x) (hl : ls.length ≤ 1000) :
    Cw Tryz.prog 22 [v] z fun r s' => K0 z s' ∧ r = sv (printL ls) := by
  obtain ⟨a, cp, rfl⟩ := hv.shape
  have hp : Hp (fun _ => False) z [slA κ (.slice a ls.length cp) 6 ls.length (lnC ls)] [] z := Hp.start _ wf _ (by simp; exact hv)
  refine Cw.enterS Tryz.func22 rfl rfl ?_
  refine Sm.seqW ?_
  conv => whnf
  refine Sm.live [0] ?_
  conv => whnf
  refine Sm.seqW ?_
  conv => whnf
  refine Sm.live [0, 3] ?_
  conv => whnf
  refine Sm.seq ?_
  refine Sm.seqW ?_
  conv => whnf
  refine Sm.live [3, 8, 9, 10] ?_
  conv => whnf
  refine Sm.block ?_
  refine Sm.loop ?_
  refine Lp.ofS (α := Nat × Option Nat × Value) (fun x => [(3, x.2.2), (8, .slice a ls.length cp), (9, .int .i64 ((ls.length : Nat) : Int)), (10, .int .i64 (x.1 : Int))])
    (fun x s' => x.1 ≤ ls.length ∧ (ls.take x.1).any badLn = false ∧ Hp (fun _ => False) z [slA κ (.slice a ls.length cp) 6 ls.length (lnC ls)] [onA x.2.1 x.2.2 1 x.1 ((ls.take x.1).map fun y => sv (lineT y))] s') (fun x => ls.length - x.1) ?_ (0, none, .slice none 0 0) (subK_ok (by refine ⟨rfl, rfl, rfl, rfl, trivial⟩)) ⟨Nat.zero_le _, rfl, (hp.nilA 1).pik (by repeat (first | exact Pik.nil | exact Pik.refl _ | exact Rm.here | apply Rm.there | apply Pik.cons | apply Pik.skip))⟩
  clear hp
  rintro ⟨i, κo, vo⟩ s ⟨hi, hno, hp⟩
  simp only at hi hno hp
  refine Sm.seqW ?_
  conv => whnf
  refine Sm.live [3, 8, 9, 10, 11] ?_
  conv => whnf
  refine Sm.seq ?_
  refine Sm.ofW ?_
  conv => whnf
  refine Br.mk (fun hc => ?_) (fun hc => ?_)
  · have hc : i < ls.length := by have : (i : Int) < ((ls.length : Nat) : Int) := of_decide_eq_true hc; omega
    obtain ⟨e, g1, g2⟩ := index_ln (hp.slR (κ := κ) (v := .slice a ls.length cp) .here) .i64 hc
    have htk : ls.take (i + 1) = ls.take i ++ [ls[i]] := List.take_succ_eq_append_getElem hc
    have hmem : ls[i] ∈ ls := List.getElem_mem hc
    have hm := hok _ hmem
    generalize hw : ls[i] = x at *
    conv => whnf
    refine Sm.seq ?_
    refine Sm.block ?_
    refine Sm.seqW ?_
    conv => whnf
    refine Om.of _ (g1) ?_
    conv => whnf
    refine Om.of _ (g2) ?_
    conv => whnf
    refine hp.alloc (cs := Ln.zero.cells) (e := 6) rfl rfl rfl rfl rfl ?_
    clear hp
    intro p5 s hp _
    conv => whnf
    refine hp.storeW (vs := x.cells) rfl (by repeat (first | exact Rm.here | apply Rm.there)) (by first | exact C2_same _ _ _ _ | exact C4_same _ _ _ _ _ _ _ _ | exact Dc_same _ _ | rfl) rfl rfl rfl ?_
    clear hp
    intro s hp _
    conv => whnf
    refine Sm.live [3, 5, 8, 9, 10] ?_
    conv => whnf
    refine Sm.seqW ?_
    conv => whnf
    refine hp.loadA (l := x.amt.cells) (by repeat (first | exact Has.here | apply Has.there | (apply Has.swap; repeat (first | exact HasR.here | apply HasR.there)))) rfl (by rfl) rfl rfl ?_
    conv => whnf
    refine hp.call (print_spec hp.wf x.amt hm.amt) ?_
    clear hp
    rintro _ s rfl hp _
    conv => whnf
    have hpl := print_le x.amt
    refine Sm.live [3, 5, 6, 8, 9, 10] ?_
    conv => whnf
    refine Sm.seq ?_
    refine Sm.seqC (fun e' L' s' => e' = .normal ∧ s' = s ∧ Sub [(3, vo), (5, .pointer (some ⟨p5, 0, none⟩)), (6, sv (printF x.amt)), (8, .slice a ls.length cp), (9, .int .i64 ((ls.length : Nat) : Int)), (10, .int .i64 (i : Int)), (28, .bool (badLn x))] L') ?_ ?_
    · conv => whnf
      unfold badLn
      refine hp.load (v := .int .i64 x.acct) (by repeat (first | exact Has.here | apply Has.there | (apply Has.swap; repeat (first | exact HasR.here | apply HasR.there)))) (by rfl) rfl rfl rfl ?_
      conv => whnf
      by_cases h1 : x.acct < 0
      · have q1 : decide (x.acct < 0) = true := decide_eq_true h1
        repeat (first | (refine Br.yes q1 ?_; conv => whnf) | (first | (refine Br.yes (by first | with_reducible rfl | with_reducible exact beq_self_eq_true _ | rfl) ?_; conv => whnf) | (refine Br.no (by first | with_reducible rfl | with_reducible exact bne_self_eq_false _ | rfl) ?_; conv => whnf)))
        exact ⟨rfl, rfl, subK_ok ⟨rfl, rfl, rfl, rfl, rfl, rfl, congrArg (fun x => some (Value.bool x)) (by rw [q1]; rfl), trivial⟩⟩
      have q1 : decide (x.acct < 0) = false := decide_eq_false h1
      repeat (first | (refine Br.no q1 ?_; conv => whnf) | (first | (refine Br.yes (by first | with_reducible rfl | with_reducible exact beq_self_eq_true _ | rfl) ?_; conv => whnf) | (refine Br.no (by first | with_reducible rfl | with_reducible exact bne_self_eq_false _ | rfl) ?_; conv => whnf)))
      refine hp.load (v := .int .i64 x.wth) (by repeat (first | exact Has.here | apply Has.there | (apply Has.swap; repeat (first | exact HasR.here | apply HasR.there)))) (by rfl) rfl rfl rfl ?_
      conv => whnf
      repeat (first | (refine Br.no q1 ?_; conv => whnf) | (first | (refine Br.yes (by first | with_reducible rfl | with_reducible exact beq_self_eq_true _ | rfl) ?_; conv => whnf) | (refine Br.no (by first | with_reducible rfl | with_reducible exact bne_self_eq_false _ | rfl) ?_; conv => whnf)))
      by_cases h2 : x.wth < -1
      · have q2 : decide (x.wth < -1) = true := decide_eq_true h2
        repeat (first | (refine Br.no q1 ?_; conv => whnf) | (refine Br.yes q2 ?_; conv => whnf) | (first | (refine Br.yes (by first | with_reducible rfl | with_reducible exact beq_self_eq_true _ | rfl) ?_; conv => whnf) | (refine Br.no (by first | with_reducible rfl | with_reducible exact bne_self_eq_false _ | rfl) ?_; conv => whnf)))
        exact ⟨rfl, rfl, subK_ok ⟨rfl, rfl, rfl, rfl, rfl, rfl, congrArg (fun x => some (Value.bool x)) (by rw [q1, q2]; rfl), trivial⟩⟩
      have q2 : decide (x.wth < -1) = false := decide_eq_false h2
      repeat (first | (refine Br.no q1 ?_; conv => whnf) | (refine Br.no q2 ?_; conv => whnf) | (first | (refine Br.yes (by first | with_reducible rfl | with_reducible exact beq_self_eq_true _ | rfl) ?_; conv => whnf) | (refine Br.no (by first | with_reducible rfl | with_reducible exact bne_self_eq_false _ | rfl) ?_; conv => whnf)))
      refine Om.of _ (sv_eq (printF x.amt) []) ?_
      conv => whnf
      repeat (first | (refine Br.no q1 ?_; conv => whnf) | (refine Br.no q2 ?_; conv => whnf) | (first | (refine Br.yes (by first | with_reducible rfl | with_reducible exact beq_self_eq_true _ | rfl) ?_; conv => whnf) | (refine Br.no (by first | with_reducible rfl | with_reducible exact bne_self_eq_false _ | rfl) ?_; conv => whnf)))
      exact ⟨rfl, rfl, subK_ok ⟨rfl, rfl, rfl, rfl, rfl, rfl, congrArg (fun x => some (Value.bool x)) (by rw [q1, q2]; rfl), trivial⟩⟩
    rintro e L' s' ⟨rfl, rfl, hs⟩
    refine Sm.weak _ hs ?_
    clear hs
    refine Sm.ofW ?_
    conv => whnf
    cases hbad : badLn x with
    | true =>
      repeat (first | (refine Br.yes hbad ?_; conv => whnf) | (first | (refine Br.yes (by first | with_reducible rfl | with_reducible exact beq_self_eq_true _ | rfl) ?_; conv => whnf) | (refine Br.no (by first | with_reducible rfl | with_reducible exact bne_self_eq_false _ | rfl) ?_; conv => whnf)))
      refine ⟨hp.fr, ?_⟩
      have : ls.any badLn = true := List.any_eq_true.2 ⟨x, hmem, hbad⟩
      unfold printL
      rw [if_pos this]; rfl
    | false =>
      repeat (first | (refine Br.no hbad ?_; conv => whnf) | (first | (refine Br.yes (by first | with_reducible rfl | with_reducible exact beq_self_eq_true _ | rfl) ?_; conv => whnf) | (refine Br.no (by first | with_reducible rfl | with_reducible exact bne_self_eq_false _ | rfl) ?_; conv => whnf)))
      have hb2 := hbad
      unfold badLn at hb2
      simp only [Bool.or_eq_false_iff, decide_eq_false_iff_not] at hb2
      obtain ⟨h1, h2, h3⟩ := hb2
      obtain ⟨k, hk⟩ : ∃ k : Nat, x.acct = k := ⟨x.acct.toNat, by omega⟩
      have hk1 : k < 100 := by have := hm.acct; omega
      have hil := itoa_le k
      refine Sm.seqW ?_
      conv => whnf
      refine hp.load (v := .int .i64 x.acct) (by repeat (first | exact Has.here | apply Has.there | (apply Has.swap; repeat (first | exact HasR.here | apply HasR.there)))) (by rfl) rfl rfl rfl ?_
      conv => whnf
      rw [hk]
      refine (itoa2_spec _ hk1).mono ?_
      rintro _ s1 ⟨h1, rfl⟩
      obtain rfl := h1.symm
      conv => whnf
      refine Om.of _ (sv_add (itoaF k) [58] (by simp; omega)) ?_
      conv => whnf
      refine Om.of _ (sv_add (itoaF k ++ [58]) (printF x.amt) (by simp; omega)) ?_
      conv => whnf
      refine Sm.live [3, 5, 7, 8, 9, 10] ?_
      conv => whnf
      refine Sm.seqC (fun e' L' s'' => e' = .normal ∧ s'' = s' ∧ Sub [(3, vo), (7, sv (lineT x)), (8, .slice a ls.length cp), (9, .int .i64 ((ls.length : Nat) : Int)), (10, .int .i64 (i : Int))] L') ?_ ?_
      · conv => whnf
        refine hp.load (v := .int .i64 x.wth) (by repeat (first | exact Has.here | apply Has.there | (apply Has.swap; repeat (first | exact HasR.here | apply HasR.there)))) (by rfl) rfl rfl rfl ?_
        conv => whnf
        by_cases hw0 : 0 ≤ x.wth
        · have q1 : decide (x.wth ≥ 0) = true := decide_eq_true hw0
          obtain ⟨j, hj⟩ : ∃ j : Nat, x.wth = j := ⟨x.wth.toNat, by omega⟩
          have hj1 : j < 100 := by have := hm.wth; omega
          have hjl := itoa_le j
          repeat (first | (refine Br.yes q1 ?_; conv => whnf) | (first | (refine Br.yes (by first | with_reducible rfl | with_reducible exact beq_self_eq_true _ | rfl) ?_; conv => whnf) | (refine Br.no (by first | with_reducible rfl | with_reducible exact bne_self_eq_false _ | rfl) ?_; conv => whnf)))
          refine hp.load (v := .int .i64 x.wth) (by repeat (first | exact Has.here | apply Has.there | (apply Has.swap; repeat (first | exact HasR.here | apply HasR.there)))) (by rfl) rfl rfl rfl ?_
          conv => whnf
          rw [hj]
          refine (itoa2_spec _ hj1).mono ?_
          rintro _ s1 ⟨h1, rfl⟩
          obtain rfl := h1.symm
          conv => whnf
          refine Om.of _ (sv_add [64] (itoaF j) (by simp; omega)) ?_
          conv => whnf
          refine Om.of _ (sv_add (itoaF k ++ [58] ++ printF x.amt) ([64] ++ itoaF j) (by simp; omega)) ?_
          conv => whnf
          exact ⟨rfl, rfl, subK_ok ⟨rfl, congrArg (fun x => some (sv x)) (by unfold lineT; rw [if_pos hw0, hk, hj]; simp), rfl, rfl, rfl, trivial⟩⟩
        · have q1 : decide (x.wth ≥ 0) = false := decide_eq_false hw0
          repeat (first | (refine Br.no q1 ?_; conv => whnf) | (first | (refine Br.yes (by first | with_reducible rfl | with_reducible exact beq_self_eq_true _ | rfl) ?_; conv => whnf) | (refine Br.no (by first | with_reducible rfl | with_reducible exact bne_self_eq_false _ | rfl) ?_; conv => whnf)))
          exact ⟨rfl, rfl, subK_ok ⟨rfl, congrArg (fun x => some (sv x)) (by unfold lineT; rw [if_neg hw0, hk]; simp), rfl, rfl, rfl, trivial⟩⟩
      rintro e L' s' ⟨rfl, rfl, hs⟩
      refine Sm.weak _ hs ?_
      clear hs
      refine Sm.ofW ?_
      conv => whnf
      refine hp.lit (cs := [sv (lineT x)]) (e := 1) (by rfl) ?_
      clear hp
      intro b4 s4 hp _
      conv => whnf
      have x4 := hp.blkSl (n := 1) (C := [sv (lineT x)]) (k := b4) (b := b4) (e := 1) (by repeat (first | exact Has.here | apply Has.there | (apply Has.swap; repeat (first | exact HasR.here | apply HasR.there)))) rfl
      refine hp.app SG Tryz.underlying95 rfl (κ := κo) (v := vo) (by repeat (first | exact Rm.here | apply Rm.there)) (elems_sl x4) rfl rfl (by omega) ?_
      clear hp x4
      intro v5 κ5 s hp
      have e1 : ((ls.take i).map fun y => sv (lineT y)) ++ [sv (lineT x)] = (ls.take (i + 1)).map fun y => sv (lineT y) := by
        rw [htk, List.map_append]; rfl
      rw [e1] at hp
      conv => whnf
      refine Sm.ofW ?_
      conv => whnf
      exact ⟨(i + 1, κ5, v5), by (show ls.length - (i + 1) < ls.length - i); omega, subK_ok (by refine ⟨rfl, rfl, rfl, congrArg (fun x => some (Value.int .i64 x)) (show IntKind.i64.wrap ((i : Int) + 1) = ((i + 1 : Nat) : Int) by rw [wi64 (by omega) (by omega)]; omega), trivial⟩), by (show i + 1 ≤ ls.length); omega, by (show (ls.take (i + 1)).any badLn = false); rw [htk, List.any_append, hno]; simp [hbad], hp.pik (by repeat (first | exact Pik.nil | exact Pik.refl _ | exact Rm.here | apply Rm.there | apply Pik.cons | apply Pik.skip))⟩
  · have hc : i = ls.length := by have : ¬ (i : Int) < ((ls.length : Nat) : Int) := of_decide_eq_false hc; omega
    subst hc
    rw [List.take_length] at hno hp
    have hjl := lines_le ls
    conv => whnf
    refine Sm.seqW ?_
    conv => whnf
    have hso : Sl s κo vo 1 (ls.map lineT).length ((ls.map lineT).map sv) := by
      rw [List.length_map, List.map_map]
      exact hp.slF (by repeat (first | exact Rm.here | apply Rm.there))
    refine hp.call (sjoin_spec hp.wf hso 44 (by omega)) ?_
    clear hp
    rintro _ s rfl hp _
    conv => whnf
    refine Sm.live [2] ?_
    conv => whnf
    refine Sm.ofW ?_
    conv => whnf
    refine ⟨hp.fr, ?_⟩
    unfold printL
    rw [if_neg (by rw [hno]; decide)]; rfl
theorem eturned_spec {z : St} (wf : WF z) {κ : Option Nat} {v : Value} {ls : List Ln} (hv : Sln z κ v ls) (hok : ∀ x ∈ ls, x.amt.c < w128) (hl : ls.length ≤ 1000) :
    Cw Tryz.prog 20 [v] z fun r s' => K0 z s' ∧ OwnN z.next s' r 6 (ls.map turnL).length (lnC (ls.map turnL)) := by
  obtain ⟨a, cp, rfl⟩ := hv.shape
  have hp : Hp (fun _ => False) z [slA κ (.slice a ls.length cp) 6 ls.length (lnC ls)] [] z := Hp.start _ wf _ (by simp; exact hv)
  refine Cw.enterS Tryz.func20 rfl rfl ?_
  refine Sm.seqW ?_
  conv => whnf
  refine Sm.live [0] ?_
  conv => whnf
  refine Sm.seqW ?_
  conv => whnf
  refine Sm.live [0, 3] ?_
  conv => whnf
  refine Sm.seq ?_
  refine Sm.seqW ?_
  conv => whnf
  refine Sm.live [3, 6, 7, 8] ?_
  conv => whnf
  refine Sm.block ?_
  refine Sm.loop ?_
  refine Lp.ofS (α := Nat × Option Nat × Value) (fun x => [(3, x.2.2), (6, .slice a ls.length cp), (7, .int .i64 ((ls.length : Nat) : Int)), (8, .int .i64 (x.1 : Int))])
    (fun x s' => x.1 ≤ ls.length ∧ Hp (fun _ => False) z [slA κ (.slice a ls.length cp) 6 ls.length (lnC ls)] [onA x.2.1 x.2.2 6 x.1 (lnC ((ls.take x.1).map turnL))] s') (fun x => ls.length - x.1) ?_ (0, none, .slice none 0 0) (subK_ok (by refine ⟨rfl, rfl, rfl, rfl, trivial⟩)) ⟨Nat.zero_le _, (hp.nilA 6).pik (by repeat (first | exact Pik.nil | exact Pik.refl _ | exact Rm.here | apply Rm.there | apply Pik.cons | apply Pik.skip))⟩
  clear hp
  rintro ⟨i, κo, vo⟩ s ⟨hi, hp⟩
  simp only at hi hp
  refine Sm.seqW ?_
  conv => whnf
  refine Sm.live [3, 6, 7, 8, 9] ?_
  conv => whnf
  refine Sm.seq ?_
  refine Sm.ofW ?_
  conv => whnf
  refine Br.mk (fun hc => ?_) (fun hc => ?_)
  · have hc : i < ls.length := by have : (i : Int) < ((ls.length : Nat) : Int) := of_decide_eq_true hc; omega
    obtain ⟨e, g1, g2⟩ := index_ln (hp.slR (κ := κ) (v := .slice a ls.length cp) .here) .i64 hc
    have htk : ls.take (i + 1) = ls.take i ++ [ls[i]] := List.take_succ_eq_append_getElem hc
    have hmem : ls[i] ∈ ls := List.getElem_mem hc
    have hm := hok _ hmem
    generalize hw : ls[i] = x at *
    conv => whnf
    refine Sm.seq ?_
    refine Sm.block ?_
    refine Sm.seqW ?_
    conv => whnf
    refine Om.of _ (g1) ?_
    conv => whnf
    refine Om.of _ (g2) ?_
    conv => whnf
    refine hp.alloc (cs := Ln.zero.cells) (e := 6) rfl rfl rfl rfl rfl ?_
    clear hp
    intro p5 s hp _
    conv => whnf
    refine hp.storeW (vs := x.cells) rfl (by repeat (first | exact Rm.here | apply Rm.there)) (by first | exact C2_same _ _ _ _ | exact C4_same _ _ _ _ _ _ _ _ | exact Dc_same _ _ | rfl) rfl rfl rfl ?_
    clear hp
    intro s hp _
    conv => whnf
    refine Sm.live [3, 5, 6, 7, 8] ?_
    conv => whnf
    refine Sm.seqW ?_
    conv => whnf
    refine hp.loadA (l := x.amt.cells) (by repeat (first | exact Has.here | apply Has.there | (apply Has.swap; repeat (first | exact HasR.here | apply HasR.there)))) rfl (by rfl) rfl rfl ?_
    conv => whnf
    refine hp.call (dneg_spec hp.wf x.amt hm) ?_
    clear hp
    rintro _ s rfl hp _
    conv => whnf
    refine hp.storeA (off := 1) (vs := (negF x.amt).cells) rfl (by repeat (first | exact Rm.here | apply Rm.there)) (by show 1 + 4 ≤ 6; decide) rfl rfl rfl ?_
    clear hp
    intro s hp _
    replace hp : Hp (fun _ => False) z [slA κ (.slice a ls.length cp) 6 ls.length (lnC ls)] [blkA p5 p5 (turnL x).cells 6, onA κo vo 6 i (lnC ((ls.take i).map turnL))] s := hp
    conv => whnf
    refine Sm.live [3, 5, 6, 7, 8] ?_
    conv => whnf
    refine Sm.ofW ?_
    conv => whnf
    refine hp.loadA (l := (turnL x).cells) (by repeat (first | exact Has.here | apply Has.there | (apply Has.swap; repeat (first | exact HasR.here | apply HasR.there)))) rfl (by rfl) rfl rfl ?_
    conv => whnf
    refine hp.lit (cs := (turnL x).cells) (e := 6) (by rfl) ?_
    clear hp
    intro b4 s4 hp _
    conv => whnf
    have x4 := hp.blkSl (n := 1) (C := (turnL x).cells) (k := b4) (b := b4) (e := 6) (by repeat (first | exact Has.here | apply Has.there | (apply Has.swap; repeat (first | exact HasR.here | apply HasR.there)))) rfl
    refine hp.app LT Tryz.underlying24 rfl (κ := κo) (v := vo) (by repeat (first | exact Rm.here | apply Rm.there)) (elems_sl x4) rfl rfl (by omega) ?_
    clear hp x4
    intro v5 κ5 s hp
    have e1 : lnC ((ls.take i).map turnL) ++ (turnL x).cells = lnC ((ls.take (i + 1)).map turnL) := by
      rw [htk, List.map_append, lnC_app]; simp [lnC]
    rw [e1] at hp
    conv => whnf
    refine Sm.ofW ?_
    conv => whnf
    exact ⟨(i + 1, κ5, v5), by (show ls.length - (i + 1) < ls.length - i); omega, subK_ok (by refine ⟨rfl, rfl, rfl, congrArg (fun x => some (Value.int .i64 x)) (show IntKind.i64.wrap ((i : Int) + 1) = ((i + 1 : Nat) : Int) by rw [wi64 (by omega) (by omega)]; omega), trivial⟩), by (show i + 1 ≤ ls.length); omega, hp.pik (by repeat (first | exact Pik.nil | exact Pik.refl _ | exact Rm.here | apply Rm.there | apply Pik.cons | apply Pik.skip))⟩
  · have hc : i = ls.length := by have : ¬ (i : Int) < ((ls.length : Nat) : Int) := of_decide_eq_false hc; omega
    subst hc
    rw [List.take_length] at hp
    conv => whnf
    refine Sm.seqW ?_
    conv => whnf
    refine Sm.live [2] ?_
    conv => whnf
    refine Sm.ofW ?_
    conv => whnf
    refine ⟨hp.fr, ?_⟩
    have := hp.out (by repeat (first | exact Rm.here | apply Rm.there))
    rw [List.length_map]
    exact this
end Go.Ev
end

/- entry.Right walked. No condition. -/
noncomputable section
namespace Go.Ev
open Go.Proofs
variable [Lk]
set_option linter.unusedSectionVars false
set_option linter.unusedVariables false
set_option maxRecDepth 100000

theorem erightLine_spec {z : St} (wf : WF z) (x : Ln) (hx : x.amt.c < w128) (sc : Int) :
    Cw Tryz.prog 56 [x.val, .int .i64 sc] z fun r s' => K0 z s' ∧ r = .bool (rightLn x sc) := by
  have hp : Hp (fun _ => False) z [] [] z := Hp.start _ wf _ (by simp)
  refine Cw.enterS Tryz.func56 rfl rfl ?_
  refine Sm.seqW ?_
  conv => whnf
  refine hp.var (cs := x.cells) (e := 6) rfl rfl ?_
  clear hp
  intro p2 s hp _
  conv => whnf
  refine Sm.live [1, 2] ?_
  conv => whnf
  refine Sm.seqC (fun e' L' s' => e' = .normal ∧ s' = s ∧ Sub [(1, .int .i64 sc), (2, .pointer (some ⟨p2, 0, none⟩)), (5, .bool (decide (0 ≤ x.wth ∧ x.wth < 8)))] L') ?_ ?_
  · conv => whnf
    refine hp.load (v := .int .i64 x.wth) (by repeat (first | exact Has.here | apply Has.there | (apply Has.swap; repeat (first | exact HasR.here | apply HasR.there)))) (by rfl) rfl rfl rfl ?_
    conv => whnf
    by_cases h1 : 0 ≤ x.wth
    · have q1 : decide (x.wth ≥ 0) = true := decide_eq_true h1
      repeat (first | (refine Br.yes q1 ?_; conv => whnf) | (first | (refine Br.yes (by first | with_reducible rfl | with_reducible exact beq_self_eq_true _ | rfl) ?_; conv => whnf) | (refine Br.no (by first | with_reducible rfl | with_reducible exact bne_self_eq_false _ | rfl) ?_; conv => whnf)))
      refine hp.load (v := .int .i64 x.wth) (by repeat (first | exact Has.here | apply Has.there | (apply Has.swap; repeat (first | exact HasR.here | apply HasR.there)))) (by rfl) rfl rfl rfl ?_
      conv => whnf
      repeat (first | (refine Br.yes q1 ?_; conv => whnf) | (first | (refine Br.yes (by first | with_reducible rfl | with_reducible exact beq_self_eq_true _ | rfl) ?_; conv => whnf) | (refine Br.no (by first | with_reducible rfl | with_reducible exact bne_self_eq_false _ | rfl) ?_; conv => whnf)))
      exact ⟨rfl, rfl, subK_ok ⟨rfl, rfl, congrArg (fun x => some (Value.bool x)) (decide_eq_decide.2 ⟨fun h => ⟨h1, h⟩, fun h => h.2⟩), trivial⟩⟩
    · have q1 : decide (x.wth ≥ 0) = false := decide_eq_false h1
      repeat (first | (refine Br.no q1 ?_; conv => whnf) | (first | (refine Br.yes (by first | with_reducible rfl | with_reducible exact beq_self_eq_true _ | rfl) ?_; conv => whnf) | (refine Br.no (by first | with_reducible rfl | with_reducible exact bne_self_eq_false _ | rfl) ?_; conv => whnf)))
      exact ⟨rfl, rfl, subK_ok ⟨rfl, rfl, congrArg (fun x => some (Value.bool x)) (decide_eq_false (fun h => h1 h.1)).symm, trivial⟩⟩
  rintro e L' s' ⟨rfl, rfl, hs⟩
  refine Sm.weak _ hs ?_
  clear hs
  refine Sm.seq ?_
  refine Sm.seqC (fun e' L' s' => e' = .normal ∧ Hp (fun _ => False) z [] [blkA p2 p2 x.cells 6] s' ∧ Sub [(2, .pointer (some ⟨p2, 0, none⟩)), (5, .bool (decide (0 ≤ x.wth ∧ x.wth < 8))), (30, .bool (!(decide (0 ≤ x.acct ∧ x.acct < 16) && (!(signF x.amt == 0) && x.amt.scale == sc))))] L') ?_ ?_
  · conv => whnf
    refine hp.load (v := .int .i64 x.acct) (by repeat (first | exact Has.here | apply Has.there | (apply Has.swap; repeat (first | exact HasR.here | apply HasR.there)))) (by rfl) rfl rfl rfl ?_
    conv => whnf
    refine (kind_spec _ x.acct).mono ?_
    rintro _ s1 ⟨h1, rfl⟩
    obtain rfl := h1.symm
    conv => whnf
    by_cases hk : 0 ≤ x.acct ∧ x.acct < 16
    · have q1 : (kindF x.acct == 0) = false := beq_eq_false_iff_ne.2 fun h => kindF_0.1 h hk
      repeat (first | (refine Br.no q1 ?_; conv => whnf) | (first | (refine Br.yes (by first | with_reducible rfl | with_reducible exact beq_self_eq_true _ | rfl) ?_; conv => whnf) | (refine Br.no (by first | with_reducible rfl | with_reducible exact bne_self_eq_false _ | rfl) ?_; conv => whnf)))
      refine hp.loadA (l := x.amt.cells) (by repeat (first | exact Has.here | apply Has.there | (apply Has.swap; repeat (first | exact HasR.here | apply HasR.there)))) rfl (by rfl) rfl rfl ?_
      conv => whnf
      repeat (first | (refine Br.no q1 ?_; conv => whnf) | (first | (refine Br.yes (by first | with_reducible rfl | with_reducible exact beq_self_eq_true _ | rfl) ?_; conv => whnf) | (refine Br.no (by first | with_reducible rfl | with_reducible exact bne_self_eq_false _ | rfl) ?_; conv => whnf)))
      refine hp.call (dsign_spec hp.wf x.amt hx) ?_
      clear hp
      rintro _ s rfl hp _
      conv => whnf
      repeat (first | (refine Br.no q1 ?_; conv => whnf) | (first | (refine Br.yes (by first | with_reducible rfl | with_reducible exact beq_self_eq_true _ | rfl) ?_; conv => whnf) | (refine Br.no (by first | with_reducible rfl | with_reducible exact bne_self_eq_false _ | rfl) ?_; conv => whnf)))
      cases hs : signF x.amt == 0 with
      | true =>
        repeat (first | (refine Br.no q1 ?_; conv => whnf) | (refine Br.yes hs ?_; conv => whnf) | (first | (refine Br.yes (by first | with_reducible rfl | with_reducible exact beq_self_eq_true _ | rfl) ?_; conv => whnf) | (refine Br.no (by first | with_reducible rfl | with_reducible exact bne_self_eq_false _ | rfl) ?_; conv => whnf)))
        exact ⟨rfl, hp, subK_ok ⟨rfl, rfl, congrArg (fun x => some (Value.bool x)) (by simp), trivial⟩⟩
      | false =>
        repeat (first | (refine Br.no q1 ?_; conv => whnf) | (refine Br.no hs ?_; conv => whnf) | (first | (refine Br.yes (by first | with_reducible rfl | with_reducible exact beq_self_eq_true _ | rfl) ?_; conv => whnf) | (refine Br.no (by first | with_reducible rfl | with_reducible exact bne_self_eq_false _ | rfl) ?_; conv => whnf)))
        refine hp.load (v := .int .i64 x.amt.scale) (by repeat (first | exact Has.here | apply Has.there | (apply Has.swap; repeat (first | exact HasR.here | apply HasR.there)))) (by rfl) rfl rfl rfl ?_
        conv => whnf
        repeat (first | (refine Br.no q1 ?_; conv => whnf) | (refine Br.no hs ?_; conv => whnf) | (first | (refine Br.yes (by first | with_reducible rfl | with_reducible exact beq_self_eq_true _ | rfl) ?_; conv => whnf) | (refine Br.no (by first | with_reducible rfl | with_reducible exact bne_self_eq_false _ | rfl) ?_; conv => whnf)))
        exact ⟨rfl, hp, subK_ok ⟨rfl, rfl, congrArg (fun x => some (Value.bool x)) (by rw [decide_eq_true hk]; rfl), trivial⟩⟩
    · have q1 : (kindF x.acct == 0) = true := beq_iff_eq.2 (kindF_0.2 hk)
      repeat (first | (refine Br.yes q1 ?_; conv => whnf) | (first | (refine Br.yes (by first | with_reducible rfl | with_reducible exact beq_self_eq_true _ | rfl) ?_; conv => whnf) | (refine Br.no (by first | with_reducible rfl | with_reducible exact bne_self_eq_false _ | rfl) ?_; conv => whnf)))
      exact ⟨rfl, hp, subK_ok ⟨rfl, rfl, congrArg (fun x => some (Value.bool x)) (by rw [decide_eq_false hk]; rfl), trivial⟩⟩
  clear hp
  rintro e' L' s ⟨rfl, hp, hs⟩
  refine Sm.weak _ hs ?_
  clear hs
  refine Sm.ofW ?_
  conv => whnf
  unfold rightLn
  obtain ⟨g, hg⟩ : ∃ g, g = (decide (0 ≤ x.acct ∧ x.acct < 16) && (!(signF x.amt == 0) && x.amt.scale == sc)) := ⟨_, rfl⟩
  have hfin : (decide (0 ≤ x.acct ∧ x.acct < 16) && (!(signF x.amt == 0) && (x.amt.scale == sc && (if isWithF x.acct = true then decide (0 ≤ x.wth ∧ x.wth < 8) else x.wth == -1)))) = (g && (if isWithF x.acct = true then decide (0 ≤ x.wth ∧ x.wth < 8) else x.wth == -1)) := by
    rw [hg]; simp only [Bool.and_assoc]
  rw [hfin, ← hg]
  cases g with
  | false =>
    repeat (first | (refine Br.yes (by first | with_reducible rfl | with_reducible exact beq_self_eq_true _ | rfl) ?_; conv => whnf) | (refine Br.no (by first | with_reducible rfl | with_reducible exact bne_self_eq_false _ | rfl) ?_; conv => whnf))
    exact ⟨hp.fr, rfl⟩
  | true =>
    repeat (first | (refine Br.yes (by first | with_reducible rfl | with_reducible exact beq_self_eq_true _ | rfl) ?_; conv => whnf) | (refine Br.no (by first | with_reducible rfl | with_reducible exact bne_self_eq_false _ | rfl) ?_; conv => whnf))
    refine Sm.seqW ?_
    conv => whnf
    refine hp.load (v := .int .i64 x.acct) (by repeat (first | exact Has.here | apply Has.there | (apply Has.swap; repeat (first | exact HasR.here | apply HasR.there)))) (by rfl) rfl rfl rfl ?_
    conv => whnf
    refine (isWith_spec _ x.acct).mono ?_
    rintro _ s1 ⟨h1, rfl⟩
    obtain rfl := h1.symm
    conv => whnf
    rw [Bool.true_and]
    cases hw : isWithF x.acct with
    | true =>
      rw [if_pos rfl]
      repeat (first | (refine Br.yes (by first | with_reducible rfl | with_reducible exact beq_self_eq_true _ | rfl) ?_; conv => whnf) | (refine Br.no (by first | with_reducible rfl | with_reducible exact bne_self_eq_false _ | rfl) ?_; conv => whnf))
      cases hd : decide (0 ≤ x.wth ∧ x.wth < 8) with
      | true =>
        repeat (first | (refine Br.yes (by first | with_reducible rfl | with_reducible exact beq_self_eq_true _ | rfl) ?_; conv => whnf) | (refine Br.no (by first | with_reducible rfl | with_reducible exact bne_self_eq_false _ | rfl) ?_; conv => whnf))
        refine Sm.ofW ?_
        conv => whnf
        exact ⟨hp.fr, rfl⟩
      | false =>
        repeat (first | (refine Br.yes (by first | with_reducible rfl | with_reducible exact beq_self_eq_true _ | rfl) ?_; conv => whnf) | (refine Br.no (by first | with_reducible rfl | with_reducible exact bne_self_eq_false _ | rfl) ?_; conv => whnf))
        refine hp.load (v := .int .i64 x.acct) (by repeat (first | exact Has.here | apply Has.there | (apply Has.swap; repeat (first | exact HasR.here | apply HasR.there)))) (by rfl) rfl rfl rfl ?_
        conv => whnf
        repeat (first | (refine Br.yes (by first | with_reducible rfl | with_reducible exact beq_self_eq_true _ | rfl) ?_; conv => whnf) | (refine Br.no (by first | with_reducible rfl | with_reducible exact bne_self_eq_false _ | rfl) ?_; conv => whnf))
        refine (isWith_spec _ x.acct).mono ?_
        rintro _ s1 ⟨h1, rfl⟩
        obtain rfl := h1.symm
        conv => whnf
        rw [hw]
        repeat (first | (refine Br.yes (by first | with_reducible rfl | with_reducible exact beq_self_eq_true _ | rfl) ?_; conv => whnf) | (refine Br.no (by first | with_reducible rfl | with_reducible exact bne_self_eq_false _ | rfl) ?_; conv => whnf))
        refine Sm.ofW ?_
        conv => whnf
        exact ⟨hp.fr, rfl⟩
    | false =>
      rw [if_neg (by decide)]
      repeat (first | (refine Br.yes (by first | with_reducible rfl | with_reducible exact beq_self_eq_true _ | rfl) ?_; conv => whnf) | (refine Br.no (by first | with_reducible rfl | with_reducible exact bne_self_eq_false _ | rfl) ?_; conv => whnf))
      refine hp.load (v := .int .i64 x.acct) (by repeat (first | exact Has.here | apply Has.there | (apply Has.swap; repeat (first | exact HasR.here | apply HasR.there)))) (by rfl) rfl rfl rfl ?_
      conv => whnf
      repeat (first | (refine Br.yes (by first | with_reducible rfl | with_reducible exact beq_self_eq_true _ | rfl) ?_; conv => whnf) | (refine Br.no (by first | with_reducible rfl | with_reducible exact bne_self_eq_false _ | rfl) ?_; conv => whnf))
      refine (isWith_spec _ x.acct).mono ?_
      rintro _ s1 ⟨h1, rfl⟩
      obtain rfl := h1.symm
      conv => whnf
      rw [hw]
      repeat (first | (refine Br.yes (by first | with_reducible rfl | with_reducible exact beq_self_eq_true _ | rfl) ?_; conv => whnf) | (refine Br.no (by first | with_reducible rfl | with_reducible exact bne_self_eq_false _ | rfl) ?_; conv => whnf))
      refine hp.load (v := .int .i64 x.wth) (by repeat (first | exact Has.here | apply Has.there | (apply Has.swap; repeat (first | exact HasR.here | apply HasR.there)))) (by rfl) rfl rfl rfl ?_
      conv => whnf
      repeat (first | (refine Br.yes (by first | with_reducible rfl | with_reducible exact beq_self_eq_true _ | rfl) ?_; conv => whnf) | (refine Br.no (by first | with_reducible rfl | with_reducible exact bne_self_eq_false _ | rfl) ?_; conv => whnf))
      refine Sm.ofW ?_
      conv => whnf
      exact ⟨hp.fr, rfl⟩
theorem addD_c (a b : Dc) : (addD a b).1.c < w128 := by
  unfold addD
  split
  · decide
  · unfold mkP
    split
    · rename_i h
      exact Nat.lt_trans h (by decide)
    · decide
theorem sumL_app : ∀ (l r : List Ln) (s : Dc), sumL s (l ++ r) = if (sumL s l).2 ≠ 0 then sumL s l else sumL (sumL s l).1 r
  | [], r, s => by simp [sumL]
  | x :: l, r, s => by
    rw [List.cons_append, sumL, sumL]
    by_cases h : (addD s x.amt).2 ≠ 0
    · rw [if_pos h, if_pos h, if_pos h]
    · rw [if_neg h, if_neg h]
      exact sumL_app l r _
theorem sumL_one (s : Dc) (x : Ln) : sumL s [x] = addD s x.amt := by
  unfold sumL sumL
  split
  · rfl
  · rename_i h
    have h : (addD s x.amt).2 = 0 := by simpa using h
    rw [← h]
theorem eright_spec {z : St} (wf : WF z) {κ : Option Nat} {v : Value} {ls : List Ln} (hv : Sln z κ v ls) (hok : ∀ x ∈ ls, x.amt.c < w128) (hl : ls.length ≤ 1000) (sc : Int) :
    Cw Tryz.prog 16 [v, .int .i64 sc] z fun r s' => K0 z s' ∧ r = .int .i64 (rightLF ls sc) := by
  obtain ⟨a, cp, rfl⟩ := hv.shape
  have hp : Hp (fun _ => False) z [slA κ (.slice a ls.length cp) 6 ls.length (lnC ls)] [] z := Hp.start _ wf _ (by simp; exact hv)
  unfold rightLF
  refine Cw.enterS Tryz.func16 rfl rfl ?_
  refine Sm.seqW ?_
  conv => whnf
  refine Sm.live [0, 1] ?_
  conv => whnf
  refine Sm.seq ?_
  refine Sm.seqC (fun e' L' s' => e' = .normal ∧ s' = z ∧ Sub [(0, .slice a ls.length cp), (1, .int .i64 sc), (18, .bool (decide (ls = [] ∨ 8 < ls.length)))] L') ?_ ?_
  · conv => whnf
    by_cases h0 : ls = []
    · have q1 : (((ls.length : Nat) : Int) == 0) = true := by rw [h0]; rfl
      repeat (first | (refine Br.yes q1 ?_; conv => whnf) | (first | (refine Br.yes (by first | with_reducible rfl | with_reducible exact beq_self_eq_true _ | rfl) ?_; conv => whnf) | (refine Br.no (by first | with_reducible rfl | with_reducible exact bne_self_eq_false _ | rfl) ?_; conv => whnf)))
      exact ⟨rfl, rfl, subK_ok ⟨rfl, rfl, congrArg (fun x => some (Value.bool x)) (decide_eq_true (.inl h0)).symm, trivial⟩⟩
    · have q1 : (((ls.length : Nat) : Int) == 0) = false := beq_eq_false_iff_ne.2 (by have := List.length_pos_iff.2 h0; omega)
      repeat (first | (refine Br.no q1 ?_; conv => whnf) | (first | (refine Br.yes (by first | with_reducible rfl | with_reducible exact beq_self_eq_true _ | rfl) ?_; conv => whnf) | (refine Br.no (by first | with_reducible rfl | with_reducible exact bne_self_eq_false _ | rfl) ?_; conv => whnf)))
      exact ⟨rfl, rfl, subK_ok ⟨rfl, rfl, congrArg (fun x => some (Value.bool x)) (decide_eq_decide.2 ⟨fun h => .inr (by omega), fun h => by rcases h with h | h; exact absurd h h0; omega⟩), trivial⟩⟩
  rintro e' L' s' ⟨rfl, h1, hs⟩
  obtain rfl := h1.symm
  refine Sm.weak _ hs ?_
  clear hs
  refine Sm.ofW ?_
  conv => whnf
  by_cases h0 : ls = [] ∨ 8 < ls.length
  · rw [if_pos h0]
    refine Br.yes (decide_eq_true h0) ?_
    conv => whnf
    exact ⟨hp.fr, rfl⟩
  rw [if_neg h0]
  refine Br.no (decide_eq_false h0) ?_
  conv => whnf
  refine Sm.seq ?_
  refine Sm.seqW ?_
  conv => whnf
  refine Sm.live [0, 1, 19, 20, 21] ?_
  conv => whnf
  refine Sm.block ?_
  refine Sm.loop ?_
  refine Lp.ofS (α := Nat) (fun i => [(0, .slice a ls.length cp), (1, .int .i64 sc), (19, .slice a ls.length cp), (20, .int .i64 ((ls.length : Nat) : Int)), (21, .int .i64 (i : Int))])
    (fun i s' => i ≤ ls.length ∧ ((ls.take i).all fun x => rightLn x sc) = true ∧ Hp (fun _ => False) z [slA κ (.slice a ls.length cp) 6 ls.length (lnC ls)] [] s') (fun i => ls.length - i) ?_ 0 (subK_ok (by refine ⟨rfl, rfl, rfl, rfl, rfl, trivial⟩)) ⟨Nat.zero_le _, rfl, hp⟩
  clear hp
  rintro i s ⟨hi, hall, hp⟩
  refine Sm.seqW ?_
  conv => whnf
  refine Sm.live [0, 1, 19, 20, 21, 22] ?_
  conv => whnf
  refine Sm.seq ?_
  refine Sm.ofW ?_
  conv => whnf
  refine Br.mk (fun hc => ?_) (fun hc => ?_)
  · have hc : i < ls.length := by have : (i : Int) < ((ls.length : Nat) : Int) := of_decide_eq_true hc; omega
    obtain ⟨e, g1, g2⟩ := index_ln (hp.slR (κ := κ) (v := .slice a ls.length cp) .here) .i64 hc
    have htk : ls.take (i + 1) = ls.take i ++ [ls[i]] := List.take_succ_eq_append_getElem hc
    have hmem : ls[i] ∈ ls := List.getElem_mem hc
    have hm := hok _ hmem
    generalize hw : ls[i] = x at *
    conv => whnf
    refine Sm.seq ?_
    refine Sm.block ?_
    refine Sm.seqW ?_
    conv => whnf
    refine Om.of _ (g1) ?_
    conv => whnf
    refine Om.of _ (g2) ?_
    conv => whnf
    refine hp.alloc (cs := Ln.zero.cells) (e := 6) rfl rfl rfl rfl rfl ?_
    clear hp
    intro p6 s hp _
    conv => whnf
    refine hp.storeW (vs := x.cells) rfl (by repeat (first | exact Rm.here | apply Rm.there)) (by first | exact C2_same _ _ _ _ | exact C4_same _ _ _ _ _ _ _ _ | exact Dc_same _ _ | rfl) rfl rfl rfl ?_
    clear hp
    intro s hp _
    conv => whnf
    refine Sm.live [0, 1, 6, 19, 20, 21] ?_
    conv => whnf
    refine Sm.seqW ?_
    conv => whnf
    refine hp.loadA (l := x.cells) (by repeat (first | exact Has.here | apply Has.there | (apply Has.swap; repeat (first | exact HasR.here | apply HasR.there)))) rfl (by rfl) rfl rfl ?_
    conv => whnf
    refine hp.call (erightLine_spec hp.wf x hm sc) ?_
    clear hp
    rintro _ s rfl hp _
    conv => whnf
    refine Sm.live [0, 1, 19, 20, 21, 28] ?_
    conv => whnf
    refine Sm.ofW ?_
    conv => whnf
    cases hr : rightLn x sc with
    | true =>
      repeat (first | (refine Br.yes (by first | with_reducible rfl | with_reducible exact beq_self_eq_true _ | rfl) ?_; conv => whnf) | (refine Br.no (by first | with_reducible rfl | with_reducible exact bne_self_eq_false _ | rfl) ?_; conv => whnf))
      refine Sm.ofW ?_
      conv => whnf
      exact ⟨i + 1, by (show ls.length - (i + 1) < ls.length - i); omega, subK_ok (by refine ⟨rfl, rfl, rfl, rfl, congrArg (fun x => some (Value.int .i64 x)) (show IntKind.i64.wrap ((i : Int) + 1) = ((i + 1 : Nat) : Int) by rw [wi64 (by omega) (by omega)]; omega), trivial⟩), by omega, by rw [htk, List.all_append, hall]; simp [hr], hp.pik (by repeat (first | exact Pik.nil | exact Pik.refl _ | exact Rm.here | apply Rm.there | apply Pik.cons | apply Pik.skip))⟩
    | false =>
      repeat (first | (refine Br.yes (by first | with_reducible rfl | with_reducible exact beq_self_eq_true _ | rfl) ?_; conv => whnf) | (refine Br.no (by first | with_reducible rfl | with_reducible exact bne_self_eq_false _ | rfl) ?_; conv => whnf))
      have : (ls.all fun x => rightLn x sc) = false := by
        cases hq : (ls.all fun x => rightLn x sc) with
        | false => rfl
        | true => rw [List.all_eq_true] at hq; rw [hq x hmem] at hr; cases hr
      exact ⟨hp.fr, by rw [if_pos this]; rfl⟩
  · have hc : i = ls.length := by have : ¬ (i : Int) < ((ls.length : Nat) : Int) := of_decide_eq_false hc; omega
    subst hc
    rw [List.take_length] at hall
    rw [if_neg (by rw [hall]; decide)]
    have h00 : ls ≠ [] := fun h => h0 (.inl h)
    have hsc : 0 ≤ sc ∧ sc ≤ 9 := by
      obtain ⟨x, r, rfl⟩ := List.exists_cons_of_ne_nil h00
      have hx : rightLn x sc = true := by rw [List.all_cons, Bool.and_eq_true] at hall; exact hall.1
      unfold rightLn at hx
      simp only [Bool.and_eq_true, Bool.not_eq_true', beq_eq_false_iff_ne, beq_iff_eq] at hx
      have hr := Dc.right_iff.1 (sign_rt hx.2.1).1
      rw [hx.2.2.1] at hr
      exact ⟨hr.2.1, hr.2.2.1⟩
    have hz : ofD 0 sc = zeroD sc := by
      unfold ofD zeroD
      have : max 0 (min sc 9) = sc := by omega
      rw [this]; rfl
    conv => whnf
    refine Sm.seqW ?_
    conv => whnf
    refine hp.call (dof_spec hp.wf (n := 0) (by unfold inR; decide) sc) ?_
    clear hp
    rintro _ s rfl hp _
    conv => whnf
    rw [hz]
    refine hp.alloc (cs := Dc.zero.cells) (e := 4) rfl rfl rfl rfl rfl ?_
    clear hp
    intro p7 s hp _
    conv => whnf
    refine hp.storeW (vs := (zeroD sc).cells) rfl (by repeat (first | exact Rm.here | apply Rm.there)) (by first | exact C2_same _ _ _ _ | exact C4_same _ _ _ _ _ _ _ _ | exact Dc_same _ _ | rfl) rfl rfl rfl ?_
    clear hp
    intro s hp _
    conv => whnf
    refine Sm.live [0, 7] ?_
    conv => whnf
    refine Sm.seq ?_
    refine Sm.seqW ?_
    conv => whnf
    refine Sm.live [7, 32, 33, 34] ?_
    conv => whnf
    refine Sm.block ?_
    refine Sm.loop ?_
    refine Lp.ofS (α := Nat × Dc) (fun x => [(7, .pointer (some ⟨p7, 0, none⟩)), (32, .slice a ls.length cp), (33, .int .i64 ((ls.length : Nat) : Int)), (34, .int .i64 (x.1 : Int))])
      (fun x s' => x.1 ≤ ls.length ∧ sumL (zeroD sc) (ls.take x.1) = (x.2, 0) ∧ x.2.c < w128 ∧ Hp (fun _ => False) z [slA κ (.slice a ls.length cp) 6 ls.length (lnC ls)] [blkA p7 p7 x.2.cells 4] s') (fun x => ls.length - x.1) ?_ (0, zeroD sc) (subK_ok (by refine ⟨rfl, rfl, rfl, rfl, trivial⟩)) ⟨Nat.zero_le _, rfl, by (show 0 < w128); decide, hp.pik (by repeat (first | exact Pik.nil | exact Pik.refl _ | exact Rm.here | apply Rm.there | apply Pik.cons | apply Pik.skip))⟩
    clear hp
    rintro ⟨i, d⟩ s ⟨hi, hsm, hd, hp⟩
    simp only at hi hsm hd hp
    refine Sm.seqW ?_
    conv => whnf
    refine Sm.live [7, 32, 33, 34, 35] ?_
    conv => whnf
    refine Sm.seq ?_
    refine Sm.ofW ?_
    conv => whnf
    refine Br.mk (fun hc => ?_) (fun hc => ?_)
    · have hc : i < ls.length := by have : (i : Int) < ((ls.length : Nat) : Int) := of_decide_eq_true hc; omega
      obtain ⟨e, g1, g2⟩ := index_ln (hp.slR (κ := κ) (v := .slice a ls.length cp) .here) .i64 hc
      have htk : ls.take (i + 1) = ls.take i ++ [ls[i]] := List.take_succ_eq_append_getElem hc
      have hdr : ls = ls.take (i + 1) ++ ls.drop (i + 1) := (List.take_append_drop _ _).symm
      have hmem : ls[i] ∈ ls := List.getElem_mem hc
      have hm := hok _ hmem
      generalize hw : ls[i] = x at *
      have hs1 : sumL (zeroD sc) (ls.take (i + 1)) = addD d x.amt := by rw [htk, sumL_app, hsm, if_neg (by simp), sumL_one]
      have hac := addD_c d x.amt
      conv => whnf
      refine Sm.seq ?_
      refine Sm.block ?_
      refine Sm.seqW ?_
      conv => whnf
      refine Om.of _ (g1) ?_
      conv => whnf
      refine Om.of _ (g2) ?_
      conv => whnf
      refine hp.alloc (cs := Ln.zero.cells) (e := 6) rfl rfl rfl rfl rfl ?_
      clear hp
      intro p9 s hp _
      conv => whnf
      refine hp.storeW (vs := x.cells) rfl (by repeat (first | exact Rm.here | apply Rm.there)) (by first | exact C2_same _ _ _ _ | exact C4_same _ _ _ _ _ _ _ _ | exact Dc_same _ _ | rfl) rfl rfl rfl ?_
      clear hp
      intro s hp _
      conv => whnf
      refine Sm.live [7, 9, 32, 33, 34] ?_
      conv => whnf
      refine Sm.seqW ?_
      conv => whnf
      refine Sm.live [7, 9, 32, 33, 34] ?_
      conv => whnf
      refine Sm.seqW ?_
      conv => whnf
      refine hp.loadA (l := d.cells) (by repeat (first | exact Has.here | apply Has.there | (apply Has.swap; repeat (first | exact HasR.here | apply HasR.there)))) rfl (by rfl) rfl rfl ?_
      conv => whnf
      refine hp.loadA (l := x.amt.cells) (by repeat (first | exact Has.here | apply Has.there | (apply Has.swap; repeat (first | exact HasR.here | apply HasR.there)))) rfl (by rfl) rfl rfl ?_
      conv => whnf
      refine hp.call (decAdd_spec hp.wf d x.amt hd hm) ?_
      clear hp
      rintro _ s rfl hp _
      conv => whnf
      rw [addF_D]
      generalize hA : addD d x.amt = A at *
      conv => whnf
      refine hp.storeW (vs := A.1.cells) rfl (by repeat (first | exact Rm.here | apply Rm.there)) (by first | exact C2_same _ _ _ _ | exact C4_same _ _ _ _ _ _ _ _ | exact Dc_same _ _ | rfl) rfl rfl rfl ?_
      clear hp
      intro s hp _
      conv => whnf
      refine Sm.live [7, 10, 32, 33, 34] ?_
      conv => whnf
      refine Sm.seqW ?_
      conv => whnf
      refine Sm.ofW ?_
      conv => whnf
      cases he : A.2 == 0 with
      | true =>
        have he2 : A.2 = 0 := beq_iff_eq.1 he
        refine Br.no (by show (!(A.2 == 0)) = false; rw [he]; rfl) ?_
        conv => whnf
        refine Sm.ofW ?_
        conv => whnf
        exact ⟨(i + 1, A.1), by (show ls.length - (i + 1) < ls.length - i); omega, subK_ok (by refine ⟨rfl, rfl, rfl, congrArg (fun x => some (Value.int .i64 x)) (show IntKind.i64.wrap ((i : Int) + 1) = ((i + 1 : Nat) : Int) by rw [wi64 (by omega) (by omega)]; omega), trivial⟩), by (show i + 1 ≤ ls.length); omega, by (show sumL (zeroD sc) (ls.take (i + 1)) = (A.1, 0)); rw [hs1, ← he2], hac, hp.pik (by repeat (first | exact Pik.nil | exact Pik.refl _ | exact Rm.here | apply Rm.there | apply Pik.cons | apply Pik.skip))⟩
      | false =>
        have he2 : A.2 ≠ 0 := beq_eq_false_iff_ne.1 he
        refine Br.yes (by show (!(A.2 == 0)) = true; rw [he]; rfl) ?_
        conv => whnf
        refine ⟨hp.fr, ?_⟩
        have : sumL (zeroD sc) ls = A := by
          rw [hdr, sumL_app, hs1, if_pos he2]
        rw [this]
        unfold tailE
        rw [if_pos he2]; rfl
    · have hc : i = ls.length := by have : ¬ (i : Int) < ((ls.length : Nat) : Int) := of_decide_eq_false hc; omega
      subst hc
      rw [List.take_length] at hsm
      rw [hsm]
      unfold tailE
      rw [if_neg (by simp)]
      conv => whnf
      refine Sm.seq ?_
      refine Sm.seqW ?_
      conv => whnf
      refine hp.loadA (l := d.cells) (by repeat (first | exact Has.here | apply Has.there | (apply Has.swap; repeat (first | exact HasR.here | apply HasR.there)))) rfl (by rfl) rfl rfl ?_
      conv => whnf
      refine hp.call (dsign_spec hp.wf d hd) ?_
      clear hp
      rintro _ s rfl hp _
      conv => whnf
      refine Sm.ofW ?_
      conv => whnf
      cases he : signF d == 0 with
      | true =>
        refine Br.no (by show (!(signF d == 0)) = false; rw [he]; rfl) ?_
        conv => whnf
        refine Sm.seqW ?_
        conv => whnf
        refine Sm.ofW ?_
        conv => whnf
        refine ⟨hp.fr, ?_⟩
        rw [if_neg (by simpa using he)]; rfl
      | false =>
        refine Br.yes (by show (!(signF d == 0)) = true; rw [he]; rfl) ?_
        conv => whnf
        refine ⟨hp.fr, ?_⟩
        rw [if_pos (by simpa using he)]; rfl
end Go.Ev
end

/- Raw numbers as lines, walked. No condition. -/
noncomputable section
namespace Go.Ev
open Go.Proofs
variable [Lk]
set_option linter.unusedSectionVars false
set_option linter.unusedVariables false
set_option maxRecDepth 100000

end Go.Ev
end

/- Lines that are alike; chapter 12's example. No condition. -/
noncomputable section
namespace Go.Ev
open Go.Proofs
variable [Lk]
set_option linter.unusedSectionVars false
set_option linter.unusedVariables false
set_option maxRecDepth 100000

def eqLn (a b : Ln) : Bool := a.acct == b.acct && (eqD a.amt b.amt && a.wth == b.wth)
theorem eqLn_self (a : Ln) : eqLn a a = true := by
  unfold eqLn eqD
  simp
theorem eqLn_iff {a b : Ln} : eqLn a b = true ↔ a = b := by
  constructor
  · intro h
    unfold eqLn eqD at h
    simp only [Bool.and_eq_true, beq_iff_eq, decide_eq_true_eq] at h
    obtain ⟨aa, ⟨an, ac, ae⟩, aw⟩ := a
    obtain ⟨ba, ⟨bn, bc, be⟩, bw⟩ := b
    simp only at h
    obtain ⟨h1, ⟨h2, h3, h4⟩, h5⟩ := h
    subst h1 h2 h3 h4 h5
    rfl
  · rintro rfl; exact eqLn_self a
def exT : List UInt8 := [48, 58, 49, 48, 46, 53, 48, 44, 56, 58, 45, 49, 48, 46, 53, 48]
def exL : List Ln := [⟨0, ⟨false, 1050, 2⟩, -1⟩, ⟨8, ⟨true, 1050, 2⟩, -1⟩]
theorem ex_read : readL exT = (exL, 0) := by kernel_rfl
theorem ex_print : printL exL = exT := by kernel_rfl
theorem ex_right : rightLF exL 2 = 0 := by kernel_rfl
theorem eknown_spec {z : St} (wf : WF z) (hg : Gs z) : Cw Tryz.prog 17 [] z fun r s' => K0 z s' ∧ r = .bool true := by
  have hp : Hp (fun _ => False) z [] [] z := Hp.start _ wf _ (by simp)
  refine Cw.enterS Tryz.func17 rfl rfl ?_
  refine Sm.seqW ?_
  conv => whnf
  refine Sm.seqW ?_
  conv => whnf
  refine hp.call (eread_spec hp.wf hg exT (by decide)) ?_
  intro r s hr h1 k1
  obtain ⟨w, rfl, how⟩ := hr
  rw [ex_read] at how ⊢
  obtain ⟨κ, hp⟩ := hp.on k1 how
  clear h1 k1 how
  obtain ⟨aw, cw, rfl⟩ := (hp.slF (κ := κ) (v := w) (by repeat (first | exact Rm.here | apply Rm.there))).shape
  conv => whnf
  refine Sm.live [1, 2] ?_
  conv => whnf
  refine Sm.seqW ?_
  conv => whnf
  refine ⟨[0, 1, 3, 7, 15, 31, 63, 127, 255, 511, 1023, 255, 2303, 8191, 16383, 32767, 65535, 131071, 262143, 524287, 1048575, 2097151, 4194303, 8388607, 16777215, 33554431], by decide +kernel, by decide +kernel, ?_⟩
  conv => whnf
  have hmem : ∀ x ∈ exL, MemLn x := by
    intro x hx
    simp only [exL, List.mem_cons, List.not_mem_nil, or_false] at hx
    rcases hx with rfl | rfl <;> exact ⟨by decide, by decide, by decide⟩
  repeat (first | (refine Br.yes (by first | with_reducible rfl | with_reducible exact beq_self_eq_true _ | rfl) ?_; conv => whnf) | (refine Br.no (by first | with_reducible rfl | with_reducible exact bne_self_eq_false _ | rfl) ?_; conv => whnf))
  obtain ⟨e, f1, f2⟩ := index_ln (hp.slF (κ := κ) (v := .slice aw exL.length cw) (by repeat (first | exact Rm.here | apply Rm.there))) .i64 (i := 1) (by decide)
  refine Om.of _ (f1) ?_
  conv => whnf
  repeat (first | (refine Br.yes (by first | with_reducible rfl | with_reducible exact beq_self_eq_true _ | rfl) ?_; conv => whnf) | (refine Br.no (by first | with_reducible rfl | with_reducible exact bne_self_eq_false _ | rfl) ?_; conv => whnf))
  refine Om.of _ (f2) ?_
  conv => whnf
  repeat (first | (refine Br.yes (by first | with_reducible rfl | with_reducible exact beq_self_eq_true _ | rfl) ?_; conv => whnf) | (refine Br.no (by first | with_reducible rfl | with_reducible exact bne_self_eq_false _ | rfl) ?_; conv => whnf))
  refine hp.rst.call (rof_spec hp.rst.wf (n := -1050) (by unfold inR; decide) 2) ?_
  rintro _ s1 rfl h1 k1
  conv => whnf
  refine hp.dkN h1 k1 ?_
  clear hp h1 k1
  intro s hp
  conv => whnf
  repeat (first | (refine Br.yes (by first | with_reducible rfl | with_reducible exact beq_self_eq_true _ | rfl) ?_; conv => whnf) | (refine Br.no (by first | with_reducible rfl | with_reducible exact bne_self_eq_false _ | rfl) ?_; conv => whnf))
  refine Om.of (.bool true) (by kernel_rfl) ?_
  conv => whnf
  repeat (first | (refine Br.yes (by first | with_reducible rfl | with_reducible exact beq_self_eq_true _ | rfl) ?_; conv => whnf) | (refine Br.no (by first | with_reducible rfl | with_reducible exact bne_self_eq_false _ | rfl) ?_; conv => whnf))
  refine hp.rst.call (eright_spec hp.rst.wf (hp.rst.slF (κ := κ) (v := .slice aw exL.length cw) (by repeat (first | exact Rm.here | apply Rm.there))) (fun x hx => (hmem x hx).amt) (by decide) 2) ?_
  rintro _ s1 rfl h1 k1
  conv => whnf
  refine hp.dkN h1 k1 ?_
  clear hp h1 k1
  intro s hp
  conv => whnf
  rw [ex_right]
  repeat (first | (refine Br.yes (by first | with_reducible rfl | with_reducible exact beq_self_eq_true _ | rfl) ?_; conv => whnf) | (refine Br.no (by first | with_reducible rfl | with_reducible exact bne_self_eq_false _ | rfl) ?_; conv => whnf))
  refine hp.rst.call (eprint_spec hp.rst.wf (hp.rst.slF (κ := κ) (v := .slice aw exL.length cw) (by repeat (first | exact Rm.here | apply Rm.there))) hmem (by decide)) ?_
  rintro _ s1 rfl h1 k1
  conv => whnf
  refine hp.dkN h1 k1 ?_
  clear hp h1 k1
  intro s hp
  conv => whnf
  rw [ex_print]
  repeat (first | (refine Br.yes (by first | with_reducible rfl | with_reducible exact beq_self_eq_true _ | rfl) ?_; conv => whnf) | (refine Br.no (by first | with_reducible rfl | with_reducible exact bne_self_eq_false _ | rfl) ?_; conv => whnf))
  refine Om.of _ (sv_eq exT exT) ?_
  conv => whnf
  repeat (first | (refine Br.yes (by first | with_reducible rfl | with_reducible exact beq_self_eq_true _ | rfl) ?_; conv => whnf) | (refine Br.no (by first | with_reducible rfl | with_reducible exact bne_self_eq_false _ | rfl) ?_; conv => whnf))
  refine Sm.live [0] ?_
  conv => whnf
  refine Sm.ofW ?_
  conv => whnf
  exact ⟨hp.fr, rfl⟩
end Go.Ev
end

/- EntryLimits walked. No condition. -/
noncomputable section
namespace Go.Ev
open Go.Proofs
variable [Lk]
set_option linter.unusedSectionVars false
set_option linter.unusedVariables false
set_option maxRecDepth 100000

end Go.Ev
end

/- EntryBack walked. No condition. -/
noncomputable section
namespace Go.Ev
open Go.Proofs
variable [Lk]
set_option linter.unusedSectionVars false
set_option linter.unusedVariables false
set_option maxRecDepth 100000

instance lnDec : DecidableEq Ln := fun a b => decidable_of_iff (eqLn a b = true) eqLn_iff
end Go.Ev
end

/- EntryEven walked. No condition. -/
noncomputable section
namespace Go.Ev
open Go.Proofs
variable [Lk]
set_option linter.unusedSectionVars false
set_option linter.unusedVariables false
set_option maxRecDepth 100000

end Go.Ev
end

/- EntryKnown walked. No condition. -/
noncomputable section
namespace Go.Ev
open Go.Proofs
variable [Lk]
set_option linter.unusedSectionVars false
set_option linter.unusedVariables false
set_option maxRecDepth 100000

theorem oneF_c (t : List UInt8) : (oneF t).1.amt.c < w128 := by
  unfold oneF
  simp only
  split
  · decide
  · split
    · decide
    · exact readD_c _
theorem readL_c (l : List UInt8) : ∀ x ∈ (readL l).1, x.amt.c < w128 := by
  unfold readL
  split
  · simp
  · split
    · simp
    · split
      · simp
      · intro x hx
        obtain ⟨t, _, rfl⟩ := List.mem_map.1 hx
        exact oneF_c t
theorem ewhy_spec {z : St} (wf : WF z) (hg : Gs z) (l : List UInt8) (hl : l.length ≤ 10000000000000) (sc : Int) :
    Cw Tryz.prog 21 [sv l, .int .i64 sc] z fun r s' => K0 z s' ∧ r = .int .i64 (rightLF (readL l).1 sc) := by
  have hp : Hp (fun _ => False) z [] [] z := Hp.start _ wf _ (by simp)
  refine Cw.enterS Tryz.func21 rfl rfl ?_
  refine Sm.seqW ?_
  conv => whnf
  refine Sm.live [0, 1] ?_
  conv => whnf
  refine Sm.seqW ?_
  conv => whnf
  refine hp.call (eread_spec hp.wf hg l hl) ?_
  intro r s hr h1 k1
  obtain ⟨w, rfl, how⟩ := hr
  obtain ⟨κ, hp⟩ := hp.on k1 how
  clear h1 k1 how
  have h8 := readL_len l
  have hm : ∀ x ∈ (readL l).1, x.amt.c < w128 := readL_c l
  generalize readL l = R at *
  obtain ⟨aw, cw, rfl⟩ := (hp.slF (κ := κ) (v := w) (by repeat (first | exact Rm.here | apply Rm.there))).shape
  conv => whnf
  refine Sm.live [1, 5] ?_
  conv => whnf
  refine Sm.seqW ?_
  conv => whnf
  refine hp.call (eright_spec hp.wf (hp.slF (κ := κ) (v := .slice aw R.1.length cw) (by repeat (first | exact Rm.here | apply Rm.there))) hm (by omega) sc) ?_
  clear hp
  rintro _ s rfl hp _
  conv => whnf
  refine Sm.live [4] ?_
  conv => whnf
  refine Sm.ofW ?_
  conv => whnf
  exact ⟨hp.fr, rfl⟩
def KT : List (List UInt8) := [[], [48], [48, 58], [58, 49], [48, 58, 49, 44], [48, 58, 49, 64], [48, 48, 58, 49], [48, 58, 48, 49], [48, 58, 49, 64, 48, 49], [48, 58, 49, 58, 50], [48, 58, 49, 64, 50, 64, 51], [49, 48, 48, 58, 49], [48, 58, 49, 64, 49, 48, 48], [48, 58, 49, 44, 32, 49, 58, 50]]
theorem kt_bad : ∀ t ∈ KT, (readL t).2 = 2 ∧ t.length ≤ 100 := by decide +kernel
theorem kt_idx {i : Nat} (h : i < 14) : evIndex Tryz.prog 40 (.agg #[sv [], sv [48], sv [48, 58], sv [58, 49], sv [48, 58, 49, 44], sv [48, 58, 49, 64], sv [48, 48, 58, 49], sv [48, 58, 48, 49], sv [48, 58, 49, 64, 48, 49], sv [48, 58, 49, 58, 50], sv [48, 58, 49, 64, 50, 64, 51], sv [49, 48, 48, 58, 49], sv [48, 58, 49, 64, 49, 48, 48], sv [48, 58, 49, 44, 32, 49, 58, 50]]) (.int .i64 (i : Int)) = some (sv (KT[i]'h)) := by
  rcases i with _ | i
  · rfl
  rcases i with _ | i
  · rfl
  rcases i with _ | i
  · rfl
  rcases i with _ | i
  · rfl
  rcases i with _ | i
  · rfl
  rcases i with _ | i
  · rfl
  rcases i with _ | i
  · rfl
  rcases i with _ | i
  · rfl
  rcases i with _ | i
  · rfl
  rcases i with _ | i
  · rfl
  rcases i with _ | i
  · rfl
  rcases i with _ | i
  · rfl
  rcases i with _ | i
  · rfl
  rcases i with _ | i
  · rfl
  omega
def kover : List UInt8 := [48, 58, 57, 57, 57, 57, 57, 57, 57, 57, 57, 57, 57, 57, 57, 57, 57, 57, 57, 57, 57, 57, 57, 57, 57, 57, 57, 57, 57, 57, 57, 57, 46, 57]
def kmany : List UInt8 := [48, 58, 49, 44, 48, 58, 49, 44, 48, 58, 49, 44, 48, 58, 49, 44, 48, 58, 49, 44, 48, 58, 49, 44, 48, 58, 49, 44, 48, 58, 49, 44, 48, 58, 49]
def klt : List UInt8 := [51, 58, 53, 64, 49, 44, 54, 58, 45, 53, 64, 48]
theorem kover_e : (readL kover).2 = 3 := by kernel_rfl
theorem kmany_e : (readL kmany).2 = 2 := by kernel_rfl
def klL : List Ln := [⟨3, ⟨false, 5, 0⟩, 1⟩, ⟨6, ⟨true, 5, 0⟩, 0⟩]
theorem klt_e : readL klt = (klL, 0) := by kernel_rfl
theorem klR : rightLF klL 0 = 0 := by kernel_rfl
theorem klT : printL (klL.map turnL) = [51, 58, 45, 53, 64, 49, 44, 54, 58, 53, 64, 48] := by kernel_rfl
theorem kw0 : rightLF (readL [48, 58, 53, 44, 56, 58, 45, 52]).1 0 = 9 := by kernel_rfl
theorem kw1 : rightLF (readL [48, 58, 53, 44, 56, 58, 45, 53]).1 2 = 1 := by kernel_rfl
theorem kw2 : rightLF (readL [48, 58, 53, 44, 49, 54, 58, 45, 53]).1 0 = 1 := by kernel_rfl
theorem kw3 : rightLF (readL [51, 58, 53, 44, 56, 58, 45, 53]).1 0 = 1 := by kernel_rfl
theorem kw4 : rightLF (readL [48, 58, 53, 64, 49, 44, 56, 58, 45, 53]).1 0 = 1 := by kernel_rfl
theorem kw5 : rightLF (readL [51, 58, 53, 64, 56, 44, 56, 58, 45, 53]).1 0 = 1 := by kernel_rfl
theorem kw6 : rightLF (readL [48, 58, 48, 44, 56, 58, 48]).1 0 = 1 := by kernel_rfl
theorem entryKnown_walk {s0 : St} (wf : WF s0) (hg : Gs s0) : Cw Tryz.prog 5 [] s0 fun r _ => r = .bool true := by
  have hp : Hp (fun _ => False) s0 [] [] s0 := Hp.start _ wf _ (by simp)
  refine Cw.enterS Tryz.func5 rfl rfl ?_
  refine Sm.seqW ?_
  conv => whnf
  refine Sm.seq ?_
  refine Sm.seqW ?_
  conv => whnf
  refine Sm.live [13, 14] ?_
  conv => whnf
  refine Sm.block ?_
  refine Sm.loop ?_
  refine Lp.ofS (α := Nat) (fun i => [(13, .agg #[sv [], sv [48], sv [48, 58], sv [58, 49], sv [48, 58, 49, 44], sv [48, 58, 49, 64], sv [48, 48, 58, 49], sv [48, 58, 48, 49], sv [48, 58, 49, 64, 48, 49], sv [48, 58, 49, 58, 50], sv [48, 58, 49, 64, 50, 64, 51], sv [49, 48, 48, 58, 49], sv [48, 58, 49, 64, 49, 48, 48], sv [48, 58, 49, 44, 32, 49, 58, 50]]), (14, .int .i64 (i : Int))])
    (fun i s' => i ≤ 14 ∧ Hp (fun _ => False) s0 [] [] s') (fun i => 14 - i) ?_ 0 (subK_ok (by refine ⟨rfl, rfl, trivial⟩)) ⟨Nat.zero_le _, hp⟩
  clear hp
  rintro i s ⟨hi, hp⟩
  refine Sm.seqW ?_
  conv => whnf
  refine Sm.live [13, 14, 15] ?_
  conv => whnf
  refine Sm.seq ?_
  refine Sm.ofW ?_
  conv => whnf
  refine Br.mk (fun hc => ?_) (fun hc => ?_)
  · have hc : i < 14 := by have : (i : Int) < 14 := of_decide_eq_true hc; omega
    obtain ⟨hb1, hb2⟩ := kt_bad (KT[i]'hc) (List.getElem_mem _)
    conv => whnf
    refine Sm.seq ?_
    refine Sm.block ?_
    refine Sm.seqW ?_
    conv => whnf
    refine Om.of _ (kt_idx hc) ?_
    conv => whnf
    refine Sm.live [2, 13, 14] ?_
    conv => whnf
    refine Sm.seqW ?_
    conv => whnf
    refine hp.call (eread_spec hp.wf (hg.keep hp.fr) (KT[i]'hc) (by omega)) ?_
    clear hp
    rintro r s ⟨w, rfl, how⟩ hp _
    obtain ⟨aw, cw, rfl⟩ := how.shape
    rw [hb1]
    conv => whnf
    refine Sm.live [4, 13, 14] ?_
    conv => whnf
    refine Sm.seqW ?_
    conv => whnf
    refine Sm.ofW ?_
    conv => whnf
    repeat (first | (refine Br.yes (by first | with_reducible rfl | with_reducible exact beq_self_eq_true _ | rfl) ?_; conv => whnf) | (refine Br.no (by first | with_reducible rfl | with_reducible exact bne_self_eq_false _ | rfl) ?_; conv => whnf))
    refine Sm.ofW ?_
    conv => whnf
    exact ⟨i + 1, by (show 14 - (i + 1) < 14 - i); omega, subK_ok (by refine ⟨rfl, congrArg (fun x => some (Value.int .i64 x)) (show IntKind.i64.wrap ((i : Int) + 1) = ((i + 1 : Nat) : Int) by rw [wi64 (by omega) (by omega)]; omega), trivial⟩), by omega, hp⟩
  conv => whnf
  refine Sm.seqW ?_
  conv => whnf
  refine hp.call (eread_spec hp.wf (hg.keep hp.fr) kover (by decide)) ?_
  clear hp
  rintro r s ⟨w, rfl, how⟩ hp _
  obtain ⟨aw, cw, rfl⟩ := how.shape
  rw [kover_e]
  clear how
  conv => whnf
  refine Sm.live [6] ?_
  conv => whnf
  refine Sm.seqW ?_
  conv => whnf
  refine hp.call (eread_spec hp.wf (hg.keep hp.fr) kmany (by decide)) ?_
  clear hp
  rintro r s ⟨w, rfl, how⟩ hp _
  obtain ⟨aw, cw, rfl⟩ := how.shape
  rw [kmany_e]
  clear how
  conv => whnf
  refine Sm.live [6, 8] ?_
  conv => whnf
  refine Sm.seqW ?_
  conv => whnf
  refine hp.call (eread_spec hp.wf (hg.keep hp.fr) klt (by decide)) ?_
  intro r s hr h1 k1
  obtain ⟨w, rfl, how⟩ := hr
  rw [klt_e] at how ⊢
  obtain ⟨κ, hp⟩ := hp.on k1 how
  clear h1 k1 how
  obtain ⟨aw, cw, rfl⟩ := (hp.slF (κ := κ) (v := w) (by repeat (first | exact Rm.here | apply Rm.there))).shape
  have hm1 : ∀ x ∈ klL, x.amt.c < w128 := by
    intro x hx
    simp only [klL, List.mem_cons, List.not_mem_nil, or_false] at hx
    rcases hx with rfl | rfl <;> decide
  have hm2 : ∀ x ∈ klL.map turnL, MemLn x := by
    intro x hx
    simp only [klL, List.map_cons, List.map_nil, List.mem_cons, List.not_mem_nil, or_false] at hx
    rcases hx with rfl | rfl <;> exact ⟨by decide, by decide, by decide⟩
  conv => whnf
  refine Sm.live [6, 8, 9, 10] ?_
  conv => whnf
  refine Sm.seqW ?_
  conv => whnf
  refine hp.callO (eturned_spec hp.wf (hp.slF (κ := κ) (v := .slice aw klL.length cw) (by repeat (first | exact Rm.here | apply Rm.there))) hm1 (by decide)) ?_
  clear hp
  intro v8 κ8 s hp _
  obtain ⟨a8, c8, rfl⟩ := (hp.slF (κ := κ8) (v := v8) (by repeat (first | exact Rm.here | apply Rm.there))).shape
  conv => whnf
  refine Sm.live [6, 8, 9, 10, 11] ?_
  conv => whnf
  refine Sm.seqW ?_
  conv => whnf
  refine Sm.live [6, 8, 9, 10, 11, 12] ?_
  conv => whnf
  refine Sm.seqW ?_
  conv => whnf
  refine hp.call (eknown_spec hp.wf (hg.keep hp.fr)) ?_
  clear hp
  rintro _ s rfl hp _
  conv => whnf
  repeat (first | (refine Br.yes (by first | with_reducible rfl | with_reducible exact beq_self_eq_true _ | rfl) ?_; conv => whnf) | (refine Br.no (by first | with_reducible rfl | with_reducible exact bne_self_eq_false _ | rfl) ?_; conv => whnf))
  refine hp.call (eright_spec hp.wf (hp.slF (κ := κ) (v := .slice aw klL.length cw) (by repeat (first | exact Rm.here | apply Rm.there))) hm1 (by decide) 0) ?_
  clear hp
  rintro _ s rfl hp _
  conv => whnf
  rw [klR]
  repeat (first | (refine Br.yes (by first | with_reducible rfl | with_reducible exact beq_self_eq_true _ | rfl) ?_; conv => whnf) | (refine Br.no (by first | with_reducible rfl | with_reducible exact bne_self_eq_false _ | rfl) ?_; conv => whnf))
  refine hp.call (eprint_spec hp.wf (hp.slF (κ := κ8) (v := .slice a8 (klL.map turnL).length c8) (by repeat (first | exact Rm.here | apply Rm.there))) hm2 (by decide)) ?_
  clear hp
  rintro _ s rfl hp _
  conv => whnf
  rw [klT]
  repeat (first | (refine Br.yes (by first | with_reducible rfl | with_reducible exact beq_self_eq_true _ | rfl) ?_; conv => whnf) | (refine Br.no (by first | with_reducible rfl | with_reducible exact bne_self_eq_false _ | rfl) ?_; conv => whnf))
  refine Om.of _ (sv_eq [51, 58, 45, 53, 64, 49, 44, 54, 58, 53, 64, 48] [51, 58, 45, 53, 64, 49, 44, 54, 58, 53, 64, 48]) ?_
  conv => whnf
  repeat (first | (refine Br.yes (by first | with_reducible rfl | with_reducible exact beq_self_eq_true _ | rfl) ?_; conv => whnf) | (refine Br.no (by first | with_reducible rfl | with_reducible exact bne_self_eq_false _ | rfl) ?_; conv => whnf))
  refine hp.call (ewhy_spec hp.wf (hg.keep hp.fr) [48, 58, 53, 44, 56, 58, 45, 52] (by decide) 0) ?_
  clear hp
  rintro _ s rfl hp _
  conv => whnf
  rw [kw0]
  repeat (first | (refine Br.yes (by first | with_reducible rfl | with_reducible exact beq_self_eq_true _ | rfl) ?_; conv => whnf) | (refine Br.no (by first | with_reducible rfl | with_reducible exact bne_self_eq_false _ | rfl) ?_; conv => whnf))
  refine hp.call (ewhy_spec hp.wf (hg.keep hp.fr) [48, 58, 53, 44, 56, 58, 45, 53] (by decide) 2) ?_
  clear hp
  rintro _ s rfl hp _
  conv => whnf
  rw [kw1]
  repeat (first | (refine Br.yes (by first | with_reducible rfl | with_reducible exact beq_self_eq_true _ | rfl) ?_; conv => whnf) | (refine Br.no (by first | with_reducible rfl | with_reducible exact bne_self_eq_false _ | rfl) ?_; conv => whnf))
  refine hp.call (ewhy_spec hp.wf (hg.keep hp.fr) [48, 58, 53, 44, 49, 54, 58, 45, 53] (by decide) 0) ?_
  clear hp
  rintro _ s rfl hp _
  conv => whnf
  rw [kw2]
  repeat (first | (refine Br.yes (by first | with_reducible rfl | with_reducible exact beq_self_eq_true _ | rfl) ?_; conv => whnf) | (refine Br.no (by first | with_reducible rfl | with_reducible exact bne_self_eq_false _ | rfl) ?_; conv => whnf))
  refine hp.call (ewhy_spec hp.wf (hg.keep hp.fr) [51, 58, 53, 44, 56, 58, 45, 53] (by decide) 0) ?_
  clear hp
  rintro _ s rfl hp _
  conv => whnf
  rw [kw3]
  repeat (first | (refine Br.yes (by first | with_reducible rfl | with_reducible exact beq_self_eq_true _ | rfl) ?_; conv => whnf) | (refine Br.no (by first | with_reducible rfl | with_reducible exact bne_self_eq_false _ | rfl) ?_; conv => whnf))
  refine hp.call (ewhy_spec hp.wf (hg.keep hp.fr) [48, 58, 53, 64, 49, 44, 56, 58, 45, 53] (by decide) 0) ?_
  clear hp
  rintro _ s rfl hp _
  conv => whnf
  rw [kw4]
  repeat (first | (refine Br.yes (by first | with_reducible rfl | with_reducible exact beq_self_eq_true _ | rfl) ?_; conv => whnf) | (refine Br.no (by first | with_reducible rfl | with_reducible exact bne_self_eq_false _ | rfl) ?_; conv => whnf))
  refine hp.call (ewhy_spec hp.wf (hg.keep hp.fr) [51, 58, 53, 64, 56, 44, 56, 58, 45, 53] (by decide) 0) ?_
  clear hp
  rintro _ s rfl hp _
  conv => whnf
  rw [kw5]
  repeat (first | (refine Br.yes (by first | with_reducible rfl | with_reducible exact beq_self_eq_true _ | rfl) ?_; conv => whnf) | (refine Br.no (by first | with_reducible rfl | with_reducible exact bne_self_eq_false _ | rfl) ?_; conv => whnf))
  refine hp.call (ewhy_spec hp.wf (hg.keep hp.fr) [48, 58, 48, 44, 56, 58, 48] (by decide) 0) ?_
  clear hp
  rintro _ s rfl hp _
  conv => whnf
  rw [kw6]
  repeat (first | (refine Br.yes (by first | with_reducible rfl | with_reducible exact beq_self_eq_true _ | rfl) ?_; conv => whnf) | (refine Br.no (by first | with_reducible rfl | with_reducible exact bne_self_eq_false _ | rfl) ?_; conv => whnf))
  refine hp.call (eright_spec (ls := []) hp.wf (Sl.nil _ 6) (fun x hx => by cases hx) (by decide) 0) ?_
  clear hp
  rintro _ s rfl hp _
  conv => whnf
  have hr0 : rightLF [] 0 = 1 := by unfold rightLF; rw [if_pos (.inl rfl)]
  rw [hr0]
  repeat (first | (refine Br.yes (by first | with_reducible rfl | with_reducible exact beq_self_eq_true _ | rfl) ?_; conv => whnf) | (refine Br.no (by first | with_reducible rfl | with_reducible exact bne_self_eq_false _ | rfl) ?_; conv => whnf))
  refine hp.call (eprint_spec (ls := []) hp.wf (Sl.nil _ 6) (fun x hx => by cases hx) (by decide)) ?_
  clear hp
  rintro _ s rfl hp _
  conv => whnf
  have hp0 : printL [] = [] := rfl
  rw [hp0]
  repeat (first | (refine Br.yes (by first | with_reducible rfl | with_reducible exact beq_self_eq_true _ | rfl) ?_; conv => whnf) | (refine Br.no (by first | with_reducible rfl | with_reducible exact bne_self_eq_false _ | rfl) ?_; conv => whnf))
  refine Om.of _ (sv_eq [] []) ?_
  conv => whnf
  repeat (first | (refine Br.yes (by first | with_reducible rfl | with_reducible exact beq_self_eq_true _ | rfl) ?_; conv => whnf) | (refine Br.no (by first | with_reducible rfl | with_reducible exact bne_self_eq_false _ | rfl) ?_; conv => whnf))
  refine hp.lit (cs := (Ln.mk (-1) Dc.zero 0).cells) (e := 6) (by rfl) ?_
  clear hp
  intro b4 s4 hp _
  conv => whnf
  repeat (first | (refine Br.yes (by first | with_reducible rfl | with_reducible exact beq_self_eq_true _ | rfl) ?_; conv => whnf) | (refine Br.no (by first | with_reducible rfl | with_reducible exact bne_self_eq_false _ | rfl) ?_; conv => whnf))
  have x4 : Sln s4 (some b4) (.slice (some ⟨b4, 0, none⟩) 1 1) [Ln.mk (-1) Dc.zero 0] := hp.blkSl (n := 1) (C := (Ln.mk (-1) Dc.zero 0).cells) (k := b4) (b := b4) (e := 6) (by repeat (first | exact Has.here | apply Has.there | (apply Has.swap; repeat (first | exact HasR.here | apply HasR.there)))) rfl
  refine hp.call (eprint_spec (ls := [Ln.mk (-1) Dc.zero 0]) hp.wf x4 (fun x hx => by obtain rfl := List.mem_singleton.1 hx; exact ⟨by decide, by decide, by decide⟩) (by decide)) ?_
  clear hp
  rintro _ s rfl hp _
  conv => whnf
  have hp1 : printL [Ln.mk (-1) Dc.zero 0] = [] := rfl
  rw [hp1]
  repeat (first | (refine Br.yes (by first | with_reducible rfl | with_reducible exact beq_self_eq_true _ | rfl) ?_; conv => whnf) | (refine Br.no (by first | with_reducible rfl | with_reducible exact bne_self_eq_false _ | rfl) ?_; conv => whnf))
  refine Om.of _ (sv_eq [] []) ?_
  conv => whnf
  repeat (first | (refine Br.yes (by first | with_reducible rfl | with_reducible exact beq_self_eq_true _ | rfl) ?_; conv => whnf) | (refine Br.no (by first | with_reducible rfl | with_reducible exact bne_self_eq_false _ | rfl) ?_; conv => whnf))
  refine Sm.live [0] ?_
  conv => whnf
  refine Sm.ofW ?_
  conv => whnf
  exact ⟨rfl⟩
end Go.Ev
end
