/- Several texts in one: what the law's text leans on, one behind the other. No condition but those that each theorem names. -/
import Derived.Test.YtknhjdkjjfijlaaGreatDoorGEntryBack3
/- entry.Right walked. No condition. -/
noncomputable section
namespace Go.Ev
open Go.Proofs
variable [Lk]
set_option linter.unusedSectionVars false
set_option linter.unusedVariables false
set_option maxRecDepth 100000

theorem erightLine_spec {z : St} (wf : WF z) (x : Ln) (hx : x.amt.c < w128) (sc : Int) :
    Cw Tryz.prog 56 [x.val, .int .i64 sc] z fun r s' => K0 z s' ∧ r = .bool (rightLn x sc) := by
  have hp : Hp (fun _ => False) z [] [] z := Hp.start _ wf _ (by simp)
  refine Cw.enterS Tryz.func56 rfl rfl ?_
  refine Sm.seqW ?_
  conv => whnf
  refine hp.var (cs := x.cells) (e := 6) rfl rfl ?_
  clear hp
  intro p2 s hp _
  conv => whnf
  refine Sm.live [1, 2] ?_
  conv => whnf
  refine Sm.seqC (fun e' L' s' => e' = .normal ∧ s' = s ∧ Sub [(1, .int .i64 sc), (2, .pointer (some ⟨p2, 0, none⟩)), (5, .bool (decide (0 ≤ x.wth ∧ x.wth < 8)))] L') ?_ ?_
  · conv => whnf
    refine hp.load (v := .int .i64 x.wth) (by repeat (first | exact Has.here | apply Has.there | (apply Has.swap; repeat (first | exact HasR.here | apply HasR.there)))) (by rfl) rfl rfl rfl ?_
    conv => whnf
    by_cases h1 : 0 ≤ x.wth
    · have q1 : decide (x.wth ≥ 0) = true := decide_eq_true h1
      repeat (first | (refine Br.yes q1 ?_; conv => whnf) | (first | (refine Br.yes (by first | with_reducible rfl | with_reducible exact beq_self_eq_true _ | rfl) ?_; conv => whnf) | (refine Br.no (by first | with_reducible rfl | with_reducible exact bne_self_eq_false _ | rfl) ?_; conv => whnf)))
      refine hp.load (v := .int .i64 x.wth) (by repeat (first | exact Has.here | apply Has.there | (apply Has.swap; repeat (first | exact HasR.here | apply HasR.there)))) (by rfl) rfl rfl rfl ?_
      conv => whnf
      repeat (first | (refine Br.yes q1 ?_; conv => whnf) | (first | (refine Br.yes (by first | with_reducible rfl | with_reducible exact beq_self_eq_true _ | rfl) ?_; conv => whnf) | (refine Br.no (by first | with_reducible rfl | with_reducible exact bne_self_eq_false _ | rfl) ?_; conv => whnf)))
      exact ⟨rfl, rfl, subK_ok ⟨rfl, rfl, congrArg (fun x => some (Value.bool x)) (decide_eq_decide.2 ⟨fun h => ⟨h1, h⟩, fun h => h.2⟩), trivial⟩⟩
    · have q1 : decide (x.wth ≥ 0) = false := decide_eq_false h1
      repeat (first | (refine Br.no q1 ?_; conv => whnf) | (first | (refine Br.yes (by first | with_reducible rfl | with_reducible exact beq_self_eq_true _ | rfl) ?_; conv => whnf) | (refine Br.no (by first | with_reducible rfl | with_reducible exact bne_self_eq_false _ | rfl) ?_; conv => whnf)))
      exact ⟨rfl, rfl, subK_ok ⟨rfl, rfl, congrArg (fun x => some (Value.bool x)) (decide_eq_false (fun h => h1 h.1)).symm, trivial⟩⟩
  rintro e L' s' ⟨rfl, rfl, hs⟩
  refine Sm.weak _ hs ?_
  clear hs
  refine Sm.seq ?_
  refine Sm.seqC (fun e' L' s' => e' = .normal ∧ Hp (fun _ => False) z [] [blkA p2 p2 x.cells 6] s' ∧ Sub [(2, .pointer (some ⟨p2, 0, none⟩)), (5, .bool (decide (0 ≤ x.wth ∧ x.wth < 8))), (30, .bool (!(decide (0 ≤ x.acct ∧ x.acct < 16) && (!(signF x.amt == 0) && x.amt.scale == sc))))] L') ?_ ?_
  · conv => whnf
    refine hp.load (v := .int .i64 x.acct) (by repeat (first | exact Has.here | apply Has.there | (apply Has.swap; repeat (first | exact HasR.here | apply HasR.there)))) (by rfl) rfl rfl rfl ?_
    conv => whnf
    refine (kind_spec _ x.acct).mono ?_
    rintro _ s1 ⟨h1, rfl⟩
    obtain rfl := h1.symm
    conv => whnf
    by_cases hk : 0 ≤ x.acct ∧ x.acct < 16
    · have q1 : (kindF x.acct == 0) = false := beq_eq_false_iff_ne.2 fun h => kindF_0.1 h hk
      repeat (first | (refine Br.no q1 ?_; conv => whnf) | (first | (refine Br.yes (by first | with_reducible rfl | with_reducible exact beq_self_eq_true _ | rfl) ?_; conv => whnf) | (refine Br.no (by first | with_reducible rfl | with_reducible exact bne_self_eq_false _ | rfl) ?_; conv => whnf)))
      refine hp.loadA (l := x.amt.cells) (by repeat (first | exact Has.here | apply Has.there | (apply Has.swap; repeat (first | exact HasR.here | apply HasR.there)))) rfl (by rfl) rfl rfl ?_
      conv => whnf
      repeat (first | (refine Br.no q1 ?_; conv => whnf) | (first | (refine Br.yes (by first | with_reducible rfl | with_reducible exact beq_self_eq_true _ | rfl) ?_; conv => whnf) | (refine Br.no (by first | with_reducible rfl | with_reducible exact bne_self_eq_false _ | rfl) ?_; conv => whnf)))
      refine hp.call (dsign_spec hp.wf x.amt hx) ?_
      clear hp
      rintro _ s rfl hp _
      conv => whnf
      repeat (first | (refine Br.no q1 ?_; conv => whnf) | (first | (refine Br.yes (by first | with_reducible rfl | with_reducible exact beq_self_eq_true _ | rfl) ?_; conv => whnf) | (refine Br.no (by first | with_reducible rfl | with_reducible exact bne_self_eq_false _ | rfl) ?_; conv => whnf)))
      cases hs : signF x.amt == 0 with
      | true =>
        repeat (first | (refine Br.no q1 ?_; conv => whnf) | (refine Br.yes hs ?_; conv => whnf) | (first | (refine Br.yes (by first | with_reducible rfl | with_reducible exact beq_self_eq_true _ | rfl) ?_; conv => whnf) | (refine Br.no (by first | with_reducible rfl | with_reducible exact bne_self_eq_false _ | rfl) ?_; conv => whnf)))
        exact ⟨rfl, hp, subK_ok ⟨rfl, rfl, congrArg (fun x => some (Value.bool x)) (by simp), trivial⟩⟩
      | false =>
        repeat (first | (refine Br.no q1 ?_; conv => whnf) | (refine Br.no hs ?_; conv => whnf) | (first | (refine Br.yes (by first | with_reducible rfl | with_reducible exact beq_self_eq_true _ | rfl) ?_; conv => whnf) | (refine Br.no (by first | with_reducible rfl | with_reducible exact bne_self_eq_false _ | rfl) ?_; conv => whnf)))
        refine hp.load (v := .int .i64 x.amt.scale) (by repeat (first | exact Has.here | apply Has.there | (apply Has.swap; repeat (first | exact HasR.here | apply HasR.there)))) (by rfl) rfl rfl rfl ?_
        conv => whnf
        repeat (first | (refine Br.no q1 ?_; conv => whnf) | (refine Br.no hs ?_; conv => whnf) | (first | (refine Br.yes (by first | with_reducible rfl | with_reducible exact beq_self_eq_true _ | rfl) ?_; conv => whnf) | (refine Br.no (by first | with_reducible rfl | with_reducible exact bne_self_eq_false _ | rfl) ?_; conv => whnf)))
        exact ⟨rfl, hp, subK_ok ⟨rfl, rfl, congrArg (fun x => some (Value.bool x)) (by rw [decide_eq_true hk]; rfl), trivial⟩⟩
    · have q1 : (kindF x.acct == 0) = true := beq_iff_eq.2 (kindF_0.2 hk)
      repeat (first | (refine Br.yes q1 ?_; conv => whnf) | (first | (refine Br.yes (by first | with_reducible rfl | with_reducible exact beq_self_eq_true _ | rfl) ?_; conv => whnf) | (refine Br.no (by first | with_reducible rfl | with_reducible exact bne_self_eq_false _ | rfl) ?_; conv => whnf)))
      exact ⟨rfl, hp, subK_ok ⟨rfl, rfl, congrArg (fun x => some (Value.bool x)) (by rw [decide_eq_false hk]; rfl), trivial⟩⟩
  clear hp
  rintro e' L' s ⟨rfl, hp, hs⟩
  refine Sm.weak _ hs ?_
  clear hs
  refine Sm.ofW ?_
  conv => whnf
  unfold rightLn
  obtain ⟨g, hg⟩ : ∃ g, g = (decide (0 ≤ x.acct ∧ x.acct < 16) && (!(signF x.amt == 0) && x.amt.scale == sc)) := ⟨_, rfl⟩
  have hfin : (decide (0 ≤ x.acct ∧ x.acct < 16) && (!(signF x.amt == 0) && (x.amt.scale == sc && (if isWithF x.acct = true then decide (0 ≤ x.wth ∧ x.wth < 8) else x.wth == -1)))) = (g && (if isWithF x.acct = true then decide (0 ≤ x.wth ∧ x.wth < 8) else x.wth == -1)) := by
    rw [hg]; simp only [Bool.and_assoc]
  rw [hfin, ← hg]
  cases g with
  | false =>
    repeat (first | (refine Br.yes (by first | with_reducible rfl | with_reducible exact beq_self_eq_true _ | rfl) ?_; conv => whnf) | (refine Br.no (by first | with_reducible rfl | with_reducible exact bne_self_eq_false _ | rfl) ?_; conv => whnf))
    exact ⟨hp.fr, rfl⟩
  | true =>
    repeat (first | (refine Br.yes (by first | with_reducible rfl | with_reducible exact beq_self_eq_true _ | rfl) ?_; conv => whnf) | (refine Br.no (by first | with_reducible rfl | with_reducible exact bne_self_eq_false _ | rfl) ?_; conv => whnf))
    refine Sm.seqW ?_
    conv => whnf
    refine hp.load (v := .int .i64 x.acct) (by repeat (first | exact Has.here | apply Has.there | (apply Has.swap; repeat (first | exact HasR.here | apply HasR.there)))) (by rfl) rfl rfl rfl ?_
    conv => whnf
    refine (isWith_spec _ x.acct).mono ?_
    rintro _ s1 ⟨h1, rfl⟩
    obtain rfl := h1.symm
    conv => whnf
    rw [Bool.true_and]
    cases hw : isWithF x.acct with
    | true =>
      rw [if_pos rfl]
      repeat (first | (refine Br.yes (by first | with_reducible rfl | with_reducible exact beq_self_eq_true _ | rfl) ?_; conv => whnf) | (refine Br.no (by first | with_reducible rfl | with_reducible exact bne_self_eq_false _ | rfl) ?_; conv => whnf))
      cases hd : decide (0 ≤ x.wth ∧ x.wth < 8) with
      | true =>
        repeat (first | (refine Br.yes (by first | with_reducible rfl | with_reducible exact beq_self_eq_true _ | rfl) ?_; conv => whnf) | (refine Br.no (by first | with_reducible rfl | with_reducible exact bne_self_eq_false _ | rfl) ?_; conv => whnf))
        refine Sm.ofW ?_
        conv => whnf
        exact ⟨hp.fr, rfl⟩
      | false =>
        repeat (first | (refine Br.yes (by first | with_reducible rfl | with_reducible exact beq_self_eq_true _ | rfl) ?_; conv => whnf) | (refine Br.no (by first | with_reducible rfl | with_reducible exact bne_self_eq_false _ | rfl) ?_; conv => whnf))
        refine hp.load (v := .int .i64 x.acct) (by repeat (first | exact Has.here | apply Has.there | (apply Has.swap; repeat (first | exact HasR.here | apply HasR.there)))) (by rfl) rfl rfl rfl ?_
        conv => whnf
        repeat (first | (refine Br.yes (by first | with_reducible rfl | with_reducible exact beq_self_eq_true _ | rfl) ?_; conv => whnf) | (refine Br.no (by first | with_reducible rfl | with_reducible exact bne_self_eq_false _ | rfl) ?_; conv => whnf))
        refine (isWith_spec _ x.acct).mono ?_
        rintro _ s1 ⟨h1, rfl⟩
        obtain rfl := h1.symm
        conv => whnf
        rw [hw]
        repeat (first | (refine Br.yes (by first | with_reducible rfl | with_reducible exact beq_self_eq_true _ | rfl) ?_; conv => whnf) | (refine Br.no (by first | with_reducible rfl | with_reducible exact bne_self_eq_false _ | rfl) ?_; conv => whnf))
        refine Sm.ofW ?_
        conv => whnf
        exact ⟨hp.fr, rfl⟩
    | false =>
      rw [if_neg (by decide)]
      repeat (first | (refine Br.yes (by first | with_reducible rfl | with_reducible exact beq_self_eq_true _ | rfl) ?_; conv => whnf) | (refine Br.no (by first | with_reducible rfl | with_reducible exact bne_self_eq_false _ | rfl) ?_; conv => whnf))
      refine hp.load (v := .int .i64 x.acct) (by repeat (first | exact Has.here | apply Has.there | (apply Has.swap; repeat (first | exact HasR.here | apply HasR.there)))) (by rfl) rfl rfl rfl ?_
      conv => whnf
      repeat (first | (refine Br.yes (by first | with_reducible rfl | with_reducible exact beq_self_eq_true _ | rfl) ?_; conv => whnf) | (refine Br.no (by first | with_reducible rfl | with_reducible exact bne_self_eq_false _ | rfl) ?_; conv => whnf))
      refine (isWith_spec _ x.acct).mono ?_
      rintro _ s1 ⟨h1, rfl⟩
      obtain rfl := h1.symm
      conv => whnf
      rw [hw]
      repeat (first | (refine Br.yes (by first | with_reducible rfl | with_reducible exact beq_self_eq_true _ | rfl) ?_; conv => whnf) | (refine Br.no (by first | with_reducible rfl | with_reducible exact bne_self_eq_false _ | rfl) ?_; conv => whnf))
      refine hp.load (v := .int .i64 x.wth) (by repeat (first | exact Has.here | apply Has.there | (apply Has.swap; repeat (first | exact HasR.here | apply HasR.there)))) (by rfl) rfl rfl rfl ?_
      conv => whnf
      repeat (first | (refine Br.yes (by first | with_reducible rfl | with_reducible exact beq_self_eq_true _ | rfl) ?_; conv => whnf) | (refine Br.no (by first | with_reducible rfl | with_reducible exact bne_self_eq_false _ | rfl) ?_; conv => whnf))
      refine Sm.ofW ?_
      conv => whnf
      exact ⟨hp.fr, rfl⟩
theorem addD_c (a b : Dc) : (addD a b).1.c < w128 := by
  unfold addD
  split
  · decide
  · unfold mkP
    split
    · rename_i h
      exact Nat.lt_trans h (by decide)
    · decide
theorem sumL_app : ∀ (l r : List Ln) (s : Dc), sumL s (l ++ r) = if (sumL s l).2 ≠ 0 then sumL s l else sumL (sumL s l).1 r
  | [], r, s => by simp [sumL]
  | x :: l, r, s => by
    rw [List.cons_append, sumL, sumL]
    by_cases h : (addD s x.amt).2 ≠ 0
    · rw [if_pos h, if_pos h, if_pos h]
    · rw [if_neg h, if_neg h]
      exact sumL_app l r _
theorem sumL_one (s : Dc) (x : Ln) : sumL s [x] = addD s x.amt := by
  unfold sumL sumL
  split
  · rfl
  · rename_i h
    have h : (addD s x.amt).2 = 0 := by simpa using h
    rw [← h]
theorem eright_spec {z : St} (wf : WF z) {κ : Option Nat} {v : Value} {ls : List Ln} (hv : Sln z κ v ls) (hok : ∀ x ∈ ls, x.amt.c < w128) (hl : ls.length ≤ 1000) (sc : Int) :
    Cw Tryz.prog 16 [v, .int .i64 sc] z fun r s' => K0 z s' ∧ r = .int .i64 (rightLF ls sc) := by
  obtain ⟨a, cp, rfl⟩ := hv.shape
  have hp : Hp (fun _ => False) z [slA κ (.slice a ls.length cp) 6 ls.length (lnC ls)] [] z := Hp.start _ wf _ (by simp; exact hv)
  unfold rightLF
  refine Cw.enterS Tryz.func16 rfl rfl ?_
  refine Sm.seqW ?_
  conv => whnf
  refine Sm.live [0, 1] ?_
  conv => whnf
  refine Sm.seq ?_
  refine Sm.seqC (fun e' L' s' => e' = .normal ∧ s' = z ∧ Sub [(0, .slice a ls.length cp), (1, .int .i64 sc), (18, .bool (decide (ls = [] ∨ 8 < ls.length)))] L') ?_ ?_
  · conv => whnf
    by_cases h0 : ls = []
    · have q1 : (((ls.length : Nat) : Int) == 0) = true := by rw [h0]; rfl
      repeat (first | (refine Br.yes q1 ?_; conv => whnf) | (first | (refine Br.yes (by first | with_reducible rfl | with_reducible exact beq_self_eq_true _ | rfl) ?_; conv => whnf) | (refine Br.no (by first | with_reducible rfl | with_reducible exact bne_self_eq_false _ | rfl) ?_; conv => whnf)))
      exact ⟨rfl, rfl, subK_ok ⟨rfl, rfl, congrArg (fun x => some (Value.bool x)) (decide_eq_true (.inl h0)).symm, trivial⟩⟩
    · have q1 : (((ls.length : Nat) : Int) == 0) = false := beq_eq_false_iff_ne.2 (by have := List.length_pos_iff.2 h0; omega)
      repeat (first | (refine Br.no q1 ?_; conv => whnf) | (first | (refine Br.yes (by first | with_reducible rfl | with_reducible exact beq_self_eq_true _ | rfl) ?_; conv => whnf) | (refine Br.no (by first | with_reducible rfl | with_reducible exact bne_self_eq_false _ | rfl) ?_; conv => whnf)))
      exact ⟨rfl, rfl, subK_ok ⟨rfl, rfl, congrArg (fun x => some (Value.bool x)) (decide_eq_decide.2 ⟨fun h => .inr (by omega), fun h => by rcases h with h | h; exact absurd h h0; omega⟩), trivial⟩⟩
  rintro e' L' s' ⟨rfl, h1, hs⟩
  obtain rfl := h1.symm
  refine Sm.weak _ hs ?_
  clear hs
  refine Sm.ofW ?_
  conv => whnf
  by_cases h0 : ls = [] ∨ 8 < ls.length
  · rw [if_pos h0]
    refine Br.yes (decide_eq_true h0) ?_
    conv => whnf
    exact ⟨hp.fr, rfl⟩
  rw [if_neg h0]
  refine Br.no (decide_eq_false h0) ?_
  conv => whnf
  refine Sm.seq ?_
  refine Sm.seqW ?_
  conv => whnf
  refine Sm.live [0, 1, 19, 20, 21] ?_
  conv => whnf
  refine Sm.block ?_
  refine Sm.loop ?_
  refine Lp.ofS (α := Nat) (fun i => [(0, .slice a ls.length cp), (1, .int .i64 sc), (19, .slice a ls.length cp), (20, .int .i64 ((ls.length : Nat) : Int)), (21, .int .i64 (i : Int))])
    (fun i s' => i ≤ ls.length ∧ ((ls.take i).all fun x => rightLn x sc) = true ∧ Hp (fun _ => False) z [slA κ (.slice a ls.length cp) 6 ls.length (lnC ls)] [] s') (fun i => ls.length - i) ?_ 0 (subK_ok (by refine ⟨rfl, rfl, rfl, rfl, rfl, trivial⟩)) ⟨Nat.zero_le _, rfl, hp⟩
  clear hp
  rintro i s ⟨hi, hall, hp⟩
  refine Sm.seqW ?_
  conv => whnf
  refine Sm.live [0, 1, 19, 20, 21, 22] ?_
  conv => whnf
  refine Sm.seq ?_
  refine Sm.ofW ?_
  conv => whnf
  refine Br.mk (fun hc => ?_) (fun hc => ?_)
  · have hc : i < ls.length := by have : (i : Int) < ((ls.length : Nat) : Int) := of_decide_eq_true hc; omega
    obtain ⟨e, g1, g2⟩ := index_ln (hp.slR (κ := κ) (v := .slice a ls.length cp) .here) .i64 hc
    have htk : ls.take (i + 1) = ls.take i ++ [ls[i]] := List.take_succ_eq_append_getElem hc
    have hmem : ls[i] ∈ ls := List.getElem_mem hc
    have hm := hok _ hmem
    generalize hw : ls[i] = x at *
    conv => whnf
    refine Sm.seq ?_
    refine Sm.block ?_
    refine Sm.seqW ?_
    conv => whnf
    refine Om.of _ (g1) ?_
    conv => whnf
    refine Om.of _ (g2) ?_
    conv => whnf
    refine hp.alloc (cs := Ln.zero.cells) (e := 6) rfl rfl rfl rfl rfl ?_
    clear hp
    intro p6 s hp _
    conv => whnf
    refine hp.storeW (vs := x.cells) rfl (by repeat (first | exact Rm.here | apply Rm.there)) (by first | exact C2_same _ _ _ _ | exact C4_same _ _ _ _ _ _ _ _ | exact Dc_same _ _ | rfl) rfl rfl rfl ?_
    clear hp
    intro s hp _
    conv => whnf
    refine Sm.live [0, 1, 6, 19, 20, 21] ?_
    conv => whnf
    refine Sm.seqW ?_
    conv => whnf
    refine hp.loadA (l := x.cells) (by repeat (first | exact Has.here | apply Has.there | (apply Has.swap; repeat (first | exact HasR.here | apply HasR.there)))) rfl (by rfl) rfl rfl ?_
    conv => whnf
    refine hp.call (erightLine_spec hp.wf x hm sc) ?_
    clear hp
    rintro _ s rfl hp _
    conv => whnf
    refine Sm.live [0, 1, 19, 20, 21, 28] ?_
    conv => whnf
    refine Sm.ofW ?_
    conv => whnf
    cases hr : rightLn x sc with
    | true =>
      repeat (first | (refine Br.yes (by first | with_reducible rfl | with_reducible exact beq_self_eq_true _ | rfl) ?_; conv => whnf) | (refine Br.no (by first | with_reducible rfl | with_reducible exact bne_self_eq_false _ | rfl) ?_; conv => whnf))
      refine Sm.ofW ?_
      conv => whnf
      exact ⟨i + 1, by (show ls.length - (i + 1) < ls.length - i); omega, subK_ok (by refine ⟨rfl, rfl, rfl, rfl, congrArg (fun x => some (Value.int .i64 x)) (show IntKind.i64.wrap ((i : Int) + 1) = ((i + 1 : Nat) : Int) by rw [wi64 (by omega) (by omega)]; omega), trivial⟩), by omega, by rw [htk, List.all_append, hall]; simp [hr], hp.pik (by repeat (first | exact Pik.nil | exact Pik.refl _ | exact Rm.here | apply Rm.there | apply Pik.cons | apply Pik.skip))⟩
    | false =>
      repeat (first | (refine Br.yes (by first | with_reducible rfl | with_reducible exact beq_self_eq_true _ | rfl) ?_; conv => whnf) | (refine Br.no (by first | with_reducible rfl | with_reducible exact bne_self_eq_false _ | rfl) ?_; conv => whnf))
      have : (ls.all fun x => rightLn x sc) = false := by
        cases hq : (ls.all fun x => rightLn x sc) with
        | false => rfl
        | true => rw [List.all_eq_true] at hq; rw [hq x hmem] at hr; cases hr
      exact ⟨hp.fr, by rw [if_pos this]; rfl⟩
  · have hc : i = ls.length := by have : ¬ (i : Int) < ((ls.length : Nat) : Int) := of_decide_eq_false hc; omega
    subst hc
    rw [List.take_length] at hall
    rw [if_neg (by rw [hall]; decide)]
    have h00 : ls ≠ [] := fun h => h0 (.inl h)
    have hsc : 0 ≤ sc ∧ sc ≤ 9 := by
      obtain ⟨x, r, rfl⟩ := List.exists_cons_of_ne_nil h00
      have hx : rightLn x sc = true := by rw [List.all_cons, Bool.and_eq_true] at hall; exact hall.1
      unfold rightLn at hx
      simp only [Bool.and_eq_true, Bool.not_eq_true', beq_eq_false_iff_ne, beq_iff_eq] at hx
      have hr := Dc.right_iff.1 (sign_rt hx.2.1).1
      rw [hx.2.2.1] at hr
      exact ⟨hr.2.1, hr.2.2.1⟩
    have hz : ofD 0 sc = zeroD sc := by
      unfold ofD zeroD
      have : max 0 (min sc 9) = sc := by omega
      rw [this]; rfl
    conv => whnf
    refine Sm.seqW ?_
    conv => whnf
    refine hp.call (dof_spec hp.wf (n := 0) (by unfold inR; decide) sc) ?_
    clear hp
    rintro _ s rfl hp _
    conv => whnf
    rw [hz]
    refine hp.alloc (cs := Dc.zero.cells) (e := 4) rfl rfl rfl rfl rfl ?_
    clear hp
    intro p7 s hp _
    conv => whnf
    refine hp.storeW (vs := (zeroD sc).cells) rfl (by repeat (first | exact Rm.here | apply Rm.there)) (by first | exact C2_same _ _ _ _ | exact C4_same _ _ _ _ _ _ _ _ | exact Dc_same _ _ | rfl) rfl rfl rfl ?_
    clear hp
    intro s hp _
    conv => whnf
    refine Sm.live [0, 7] ?_
    conv => whnf
    refine Sm.seq ?_
    refine Sm.seqW ?_
    conv => whnf
    refine Sm.live [7, 32, 33, 34] ?_
    conv => whnf
    refine Sm.block ?_
    refine Sm.loop ?_
    refine Lp.ofS (α := Nat × Dc) (fun x => [(7, .pointer (some ⟨p7, 0, none⟩)), (32, .slice a ls.length cp), (33, .int .i64 ((ls.length : Nat) : Int)), (34, .int .i64 (x.1 : Int))])
      (fun x s' => x.1 ≤ ls.length ∧ sumL (zeroD sc) (ls.take x.1) = (x.2, 0) ∧ x.2.c < w128 ∧ Hp (fun _ => False) z [slA κ (.slice a ls.length cp) 6 ls.length (lnC ls)] [blkA p7 p7 x.2.cells 4] s') (fun x => ls.length - x.1) ?_ (0, zeroD sc) (subK_ok (by refine ⟨rfl, rfl, rfl, rfl, trivial⟩)) ⟨Nat.zero_le _, rfl, by (show 0 < w128); decide, hp.pik (by repeat (first | exact Pik.nil | exact Pik.refl _ | exact Rm.here | apply Rm.there | apply Pik.cons | apply Pik.skip))⟩
    clear hp
    rintro ⟨i, d⟩ s ⟨hi, hsm, hd, hp⟩
    simp only at hi hsm hd hp
    refine Sm.seqW ?_
    conv => whnf
    refine Sm.live [7, 32, 33, 34, 35] ?_
    conv => whnf
    refine Sm.seq ?_
    refine Sm.ofW ?_
    conv => whnf
    refine Br.mk (fun hc => ?_) (fun hc => ?_)
    · have hc : i < ls.length := by have : (i : Int) < ((ls.length : Nat) : Int) := of_decide_eq_true hc; omega
      obtain ⟨e, g1, g2⟩ := index_ln (hp.slR (κ := κ) (v := .slice a ls.length cp) .here) .i64 hc
      have htk : ls.take (i + 1) = ls.take i ++ [ls[i]] := List.take_succ_eq_append_getElem hc
      have hdr : ls = ls.take (i + 1) ++ ls.drop (i + 1) := (List.take_append_drop _ _).symm
      have hmem : ls[i] ∈ ls := List.getElem_mem hc
      have hm := hok _ hmem
      generalize hw : ls[i] = x at *
      have hs1 : sumL (zeroD sc) (ls.take (i + 1)) = addD d x.amt := by rw [htk, sumL_app, hsm, if_neg (by simp), sumL_one]
      have hac := addD_c d x.amt
      conv => whnf
      refine Sm.seq ?_
      refine Sm.block ?_
      refine Sm.seqW ?_
      conv => whnf
      refine Om.of _ (g1) ?_
      conv => whnf
      refine Om.of _ (g2) ?_
      conv => whnf
      refine hp.alloc (cs := Ln.zero.cells) (e := 6) rfl rfl rfl rfl rfl ?_
      clear hp
      intro p9 s hp _
      conv => whnf
      refine hp.storeW (vs := x.cells) rfl (by repeat (first | exact Rm.here | apply Rm.there)) (by first | exact C2_same _ _ _ _ | exact C4_same _ _ _ _ _ _ _ _ | exact Dc_same _ _ | rfl) rfl rfl rfl ?_
      clear hp
      intro s hp _
      conv => whnf
      refine Sm.live [7, 9, 32, 33, 34] ?_
      conv => whnf
      refine Sm.seqW ?_
      conv => whnf
      refine Sm.live [7, 9, 32, 33, 34] ?_
      conv => whnf
      refine Sm.seqW ?_
      conv => whnf
      refine hp.loadA (l := d.cells) (by repeat (first | exact Has.here | apply Has.there | (apply Has.swap; repeat (first | exact HasR.here | apply HasR.there)))) rfl (by rfl) rfl rfl ?_
      conv => whnf
      refine hp.loadA (l := x.amt.cells) (by repeat (first | exact Has.here | apply Has.there | (apply Has.swap; repeat (first | exact HasR.here | apply HasR.there)))) rfl (by rfl) rfl rfl ?_
      conv => whnf
      refine hp.call (decAdd_spec hp.wf d x.amt hd hm) ?_
      clear hp
      rintro _ s rfl hp _
      conv => whnf
      rw [addF_D]
      generalize hA : addD d x.amt = A at *
      conv => whnf
      refine hp.storeW (vs := A.1.cells) rfl (by repeat (first | exact Rm.here | apply Rm.there)) (by first | exact C2_same _ _ _ _ | exact C4_same _ _ _ _ _ _ _ _ | exact Dc_same _ _ | rfl) rfl rfl rfl ?_
      clear hp
      intro s hp _
      conv => whnf
      refine Sm.live [7, 10, 32, 33, 34] ?_
      conv => whnf
      refine Sm.seqW ?_
      conv => whnf
      refine Sm.ofW ?_
      conv => whnf
      cases he : A.2 == 0 with
      | true =>
        have he2 : A.2 = 0 := beq_iff_eq.1 he
        refine Br.no (by show (!(A.2 == 0)) = false; rw [he]; rfl) ?_
        conv => whnf
        refine Sm.ofW ?_
        conv => whnf
        exact ⟨(i + 1, A.1), by (show ls.length - (i + 1) < ls.length - i); omega, subK_ok (by refine ⟨rfl, rfl, rfl, congrArg (fun x => some (Value.int .i64 x)) (show IntKind.i64.wrap ((i : Int) + 1) = ((i + 1 : Nat) : Int) by rw [wi64 (by omega) (by omega)]; omega), trivial⟩), by (show i + 1 ≤ ls.length); omega, by (show sumL (zeroD sc) (ls.take (i + 1)) = (A.1, 0)); rw [hs1, ← he2], hac, hp.pik (by repeat (first | exact Pik.nil | exact Pik.refl _ | exact Rm.here | apply Rm.there | apply Pik.cons | apply Pik.skip))⟩
      | false =>
        have he2 : A.2 ≠ 0 := beq_eq_false_iff_ne.1 he
        refine Br.yes (by show (!(A.2 == 0)) = true; rw [he]; rfl) ?_
        conv => whnf
        refine ⟨hp.fr, ?_⟩
        have : sumL (zeroD sc) ls = A := by
          rw [hdr, sumL_app, hs1, if_pos he2]
        rw [this]
        unfold tailE
        rw [if_pos he2]; rfl
    · have hc : i = ls.length := by have : ¬ (i : Int) < ((ls.length : Nat) : Int) := of_decide_eq_false hc; omega
      subst hc
      rw [List.take_length] at hsm
      rw [hsm]
      unfold tailE
      rw [if_neg (by simp)]
      conv => whnf
      refine Sm.seq ?_
      refine Sm.seqW ?_
      conv => whnf
      refine hp.loadA (l := d.cells) (by repeat (first | exact Has.here | apply Has.there | (apply Has.swap; repeat (first | exact HasR.here | apply HasR.there)))) rfl (by rfl) rfl rfl ?_
      conv => whnf
      refine hp.call (dsign_spec hp.wf d hd) ?_
      clear hp
      rintro _ s rfl hp _
      conv => whnf
      refine Sm.ofW ?_
      conv => whnf
      cases he : signF d == 0 with
      | true =>
        refine Br.no (by show (!(signF d == 0)) = false; rw [he]; rfl) ?_
        conv => whnf
        refine Sm.seqW ?_
        conv => whnf
        refine Sm.ofW ?_
        conv => whnf
        refine ⟨hp.fr, ?_⟩
        rw [if_neg (by simpa using he)]; rfl
      | false =>
        refine Br.yes (by show (!(signF d == 0)) = true; rw [he]; rfl) ?_
        conv => whnf
        refine ⟨hp.fr, ?_⟩
        rw [if_pos (by simpa using he)]; rfl
end Go.Ev
end

/- Raw numbers as lines, walked. No condition. -/
noncomputable section
namespace Go.Ev
open Go.Proofs
variable [Lk]
set_option linter.unusedSectionVars false
set_option linter.unusedVariables false
set_option maxRecDepth 100000

theorem quoI {P : Program} {t : TypeId} {cst : Bool} {a m : Int} (hm : 0 < m) (ha : inR a) : evBin P .quo t cst (.int .i64 a) (.int .i64 m) = some (.int .i64 (a.tdiv m)) := by
  show (match decide (m = 0) with
    | true => none
    | false => some (Value.int .i64 (IntKind.i64.wrap (a.tdiv m)))) = _
  rw [decide_eq_false (by omega)]
  have h : a.tdiv m = IntKind.i64.wrap (a.tdiv m) := by
    obtain ⟨h1, h2⟩ := ha
    have h3 : (a.tdiv m).natAbs ≤ a.natAbs := by rw [Int.natAbs_tdiv]; exact Nat.div_le_self _ _
    refine (wi64 ?_ ?_).symm
    · omega
    · rcases Int.lt_or_le a 0 with g | g
      · have : a.tdiv m ≤ 0 := by
          have h4 : (-a).tdiv m = -(a.tdiv m) := Int.neg_tdiv ..
          have h5 : 0 ≤ (-a).tdiv m := Int.tdiv_nonneg (by omega) (by omega)
          omega
        omega
      · omega
  simp only
  rw [← h]
theorem tdiv_inR {a m : Int} (hm : 0 < m) (ha : inR a) : inR (a.tdiv m) := by
  obtain ⟨h1, h2⟩ := ha
  have h3 : (a.tdiv m).natAbs ≤ a.natAbs := by rw [Int.natAbs_tdiv]; exact Nat.div_le_self _ _
  unfold inR
  refine ⟨by omega, ?_⟩
  rcases Int.lt_or_le a 0 with g | g
  · have h4 : (-a).tdiv m = -(a.tdiv m) := Int.neg_tdiv ..
    have h5 : 0 ≤ (-a).tdiv m := Int.tdiv_nonneg (by omega) (by omega)
    omega
  · omega
theorem rzero_spec {z : St} (wf : WF z) (sc : Int) : Cw Tryz.prog 28 [.int .i64 sc] z fun r s' => K0 z s' ∧ r = (mkD 0 sc).val := by
  have hp : Hp (fun _ => False) z [] [] z := Hp.start _ wf _ (by simp)
  refine Cw.enterS Tryz.func28 rfl rfl ?_
  refine Sm.seqW ?_
  conv => whnf
  refine hp.alloc (cs := Dc.zero.cells) (e := 4) rfl rfl rfl rfl rfl ?_
  clear hp
  intro p2 s hp _
  conv => whnf
  refine Sm.live [0, 2] ?_
  conv => whnf
  refine Sm.seqW ?_
  conv => whnf
  refine hp.storeW (vs := (zeroD sc).cells) ?h1 .here rfl rfl rfl rfl ?_
  case h1 => simp [putAt, zeroD, Dc.cells, Value.cells]
  clear hp
  intro s hp _
  conv => whnf
  refine Sm.live [2] ?_
  conv => whnf
  refine Sm.ofW ?_
  conv => whnf
  refine hp.loadA (l := (zeroD sc).cells) (by repeat (first | exact Has.here | apply Has.there | (apply Has.swap; repeat (first | exact HasR.here | apply HasR.there)))) rfl (by rfl) rfl rfl ?_
  conv => whnf
  exact ⟨hp.fr, rfl⟩
theorem risWith_spec (s : St) (a : Int) : Cw Tryz.prog 46 [.int .i64 a] s fun r s' => s' = s ∧ r = .bool (isWithF a) := by
  refine Cw.enterS Tryz.func46 rfl rfl ?_
  refine Sm.seqW ?_
  conv => whnf
  refine Sm.live [0] ?_
  conv => whnf
  refine Sm.ofW ?_
  conv => whnf
  repeat' (first | (refine Br.yes (by first | with_reducible rfl | with_reducible assumption) ?_; conv => whnf) | (refine Br.no (by first | with_reducible rfl | with_reducible assumption) ?_; conv => whnf) | (refine Br.mk (fun hq => ?_) (fun hq => ?_) <;> conv => whnf))
  all_goals refine ⟨rfl, congrArg Value.bool ?_⟩
  all_goals unfold isWithF
  all_goals (first | assumption | simp_all)
theorem ofD_mk2 {x sc : Int} (h1 : 0 ≤ sc) (h2 : sc ≤ 9) : ofD x sc = mkD x sc := by
  unfold ofD mkD
  have : max 0 (min sc 9) = sc := by omega
  rw [this]
theorem amount_spec {z : St} (wf : WF z) {n sc : Int} (hn : inR n) (g1 : 0 ≤ sc) (g2 : sc ≤ 9) : Cw Tryz.prog 45 [.int .i64 n, .int .i64 sc] z fun r s' => K0 z s' ∧ r = (mkD (n % 2000001 - 1000000) sc).val := by
  have hp : Hp (fun _ => False) z [] [] z := Hp.start _ wf _ (by simp)
  have b1 := Int.emod_nonneg n (show (2000001 : Int) ≠ 0 by decide)
  have b2 := Int.emod_lt_of_pos n (show (0 : Int) < 2000001 by decide)
  refine Cw.enterS Tryz.func45 rfl rfl ?_
  refine Sm.seqW ?_
  conv => whnf
  refine hp.alloc (cs := Dc.zero.cells) (e := 4) rfl rfl rfl rfl rfl ?_
  clear hp
  intro p4 s hp _
  conv => whnf
  refine Sm.live [0, 1, 4] ?_
  conv => whnf
  refine Sm.seqW ?_
  conv => whnf
  refine (pick_spec _ hn (m := 2000001) (by decide) (by decide)).mono ?_
  rintro _ s1 ⟨h1, rfl⟩
  obtain rfl := h1.symm
  conv => whnf
  rw [wi64 (n := n % 2000001 - 1000000) (by omega) (by omega)]
  refine hp.call (rof_spec hp.wf (n := n % 2000001 - 1000000) (by unfold inR; omega) sc) ?_
  clear hp
  rintro _ s rfl hp _
  conv => whnf
  rw [ofD_mk2 g1 g2]
  refine hp.storeW (vs := (mkD (n % 2000001 - 1000000) sc).cells) rfl (by repeat (first | exact Rm.here | apply Rm.there)) (by first | exact C2_same _ _ _ _ | exact C4_same _ _ _ _ _ _ _ _ | exact Dc_same _ _ | rfl) rfl rfl rfl ?_
  clear hp
  intro s hp _
  conv => whnf
  refine Sm.live [4] ?_
  conv => whnf
  refine Sm.ofW ?_
  conv => whnf
  refine hp.loadA (l := (mkD (n % 2000001 - 1000000) sc).cells) (by repeat (first | exact Has.here | apply Has.there | (apply Has.swap; repeat (first | exact HasR.here | apply HasR.there)))) rfl (by rfl) rfl rfl ?_
  conv => whnf
  exact ⟨hp.fr, rfl⟩
theorem index_i {s : St} {κ : Option Nat} {v : Value} {l : List Int} (h : Sl s κ v 1 l.length (l.map (Value.int .i64))) (k : IntKind) {i : Nat} (hi : i < l.length) :
    ∃ a, evIndexAddr Tryz.prog 22 v (.int k (i : Int)) = some (.pointer (some a)) ∧ evLoad Tryz.prog 3 (.pointer (some a)) s = some (.int .i64 l[i]) := by
  obtain ⟨p, y, e1, e2, e3, a, rfl⟩ := index_sl IL Tryz.underlying3 rfl h k hi
  rw [List.getElem?_map, List.getElem?_eq_getElem hi] at e2
  injection e2 with e2
  subst e2
  exact ⟨a, e1, e3⟩
/-- What the lines of raw numbers may be. -/
structure LinesAns (z : St) (l : List Int) (sc bend ents : Int) (r : Value) (s' : St) : Prop where
  ex : ∃ ls : List Ln, ∃ κ, Sln s' κ r ls ∧ (∀ k, κ = some k → z.next ≤ k) ∧ 1 ≤ ls.length ∧ ls.length ≤ 9 ∧ (∀ x ∈ ls, MemLn x) ∧ (bend = 0 → ls = lines1 (linesL sc ents 6 l) sc ∧ OwnN z.next s' r 6 ls.length (lnC ls))
theorem linesL_nil (sc ents : Int) {n : Nat} {l : List Int} (h : n = 0 ∨ l.length < 2) : linesL sc ents n l = [] := by
  match n, l with
  | 0, _ => unfold linesL; rfl
  | n + 1, [] => simp [linesL]
  | n + 1, [a] => simp [linesL]
  | n + 1, a :: b :: r => simp only [List.length_cons] at h; omega
theorem putAt_mid (A B C vs : List Value) (off : Nat) (h : off + vs.length ≤ B.length) : putAt (A ++ (B ++ C)) (A.length + off) vs = A ++ (putAt B off vs ++ C) := by
  unfold putAt
  rw [List.take_length_add_append, Nat.add_assoc, List.drop_length_add_append, List.take_append_of_le_length (by omega), List.drop_append_of_le_length h]
  simp only [List.append_assoc]
theorem lnC_put {ls : List Ln} {k off : Nat} {vs : List Value} {y : Ln} (hk : k < ls.length) (hy : putAt ls[k].cells off vs = y.cells) (ho : off + vs.length ≤ 6) : putAt (lnC ls) (k * 6 + off) vs = lnC (ls.set k y) := by
  have h1 : ls = ls.take k ++ ls[k] :: ls.drop (k + 1) := by rw [← List.drop_eq_getElem_cons hk, List.take_append_drop]
  have h2 : ls.set k y = ls.take k ++ y :: ls.drop (k + 1) := by rw [List.set_eq_take_append_cons_drop, if_pos hk]
  have h3 : lnC ls = lnC (ls.take k) ++ (ls[k].cells ++ lnC (ls.drop (k + 1))) := by
    conv => lhs; rw [h1]
    rw [lnC_app, lnC_cons]
  have hl : (lnC (ls.take k)).length = k * 6 := by rw [lnC_len, List.length_take]; omega
  have hl6 : ls[k].cells.length = 6 := rfl
  rw [h2, h3, lnC_app, lnC_cons, ← hy, ← hl]
  exact putAt_mid _ _ _ _ _ (by omega)
theorem lnC_set {ls : List Ln} {k j : Nat} {v : Value} {y : Ln} (hk : k < ls.length) (hj : j < 6) (hy : ls[k].cells.set j v = y.cells) : (lnC ls).set (k * 6 + j) v = lnC (ls.set k y) := by
  have hl6 : ls[k].cells.length = 6 := rfl
  rw [← putAt_one v (by rw [lnC_len]; omega)]
  exact lnC_put hk (by rw [putAt_one v (by omega)]; exact hy) (by simp; omega)
theorem lnC_sl {ls : List Ln} {k : Nat} (hk : k < ls.length) : Go.Ev.sl (lnC ls) (k * 6 + 1) 4 = some ls[k].amt.cells := by
  have h : Go.Ev.sl (lnC ls) (k * 6) 6 = some ls[k].cells := by
    unfold Go.Ev.sl
    have e := lnC_at hk
    simp only [e]
    have : ls[k].cells.length = 6 := rfl
    rw [this]
  have := sl_sub (i := 1) (m := 4) h (by decide)
  exact this
theorem ans_own {z s' : St} {l : List Int} {sc bend ents : Int} {r : Value} {ls : List Ln} (h : OwnN z.next s' r 6 ls.length (lnC ls)) (h1 : 1 ≤ ls.length) (h9 : ls.length ≤ 9) (hm : ∀ x ∈ ls, MemLn x) (hb : bend = 0 → ls = lines1 (linesL sc ents 6 l) sc) : LinesAns z l sc bend ents r s' := by
  obtain ⟨κ, g1, g2⟩ := h.sl
  exact ⟨ls, κ, g1, g2, h1, h9, hm, fun e => ⟨hb e, h⟩⟩
theorem GoodLn.mem {sc ents : Int} {x : Ln} (h : GoodLn sc ents x) (he : ents ≤ 8) : MemLn x := by
  obtain ⟨y, g1, g2, g3⟩ := h.amt
  have ha := h.acct
  have hw := h.wth
  refine ⟨by omega, ?_, by rw [g3]; show y.natAbs < w128; simp only [w128]; omega⟩
  split at hw <;> omega
theorem mem_set {α : Type} {l : List α} {k : Nat} {y x : α} (h : x ∈ l.set k y) : x = y ∨ x ∈ l := by
  rcases List.mem_or_eq_of_mem_set h with g | g
  · exact .inr g
  · exact .inl g
theorem hlines_spec {z : St} (wf : WF z) {v : Value} {l : List Int} (hv : Sl z none v 1 l.length (l.map (Value.int .i64))) (hl : l.length ≤ 140737488351232) (hln : ∀ n ∈ l, inR n) {sc bend ents : Int} (sc1 : 0 ≤ sc) (sc2 : sc ≤ 9) (hb : inR bend) (en1 : 0 ≤ ents) (en2 : ents ≤ 8) :
    Cw Tryz.prog 13 [v, .int .i64 sc, .int .i64 bend, .int .i64 ents] z fun r s' => K0 z s' ∧ LinesAns z l sc bend ents r s' := by
  obtain ⟨a, cp, rfl⟩ := hv.shape
  have hp : Hp (fun _ => False) z [slA none (.slice a l.length cp) 1 l.length (l.map (Value.int .i64))] [] z := Hp.start _ wf _ (by simp; exact hv)
  refine Cw.enterS Tryz.func13 rfl rfl ?_
  refine Sm.seqW ?_
  conv => whnf
  refine Sm.live [0, 1, 2, 3] ?_
  conv => whnf
  refine Sm.seqW ?_
  conv => whnf
  refine Sm.live [0, 1, 2, 3, 9] ?_
  conv => whnf
  refine Sm.seqW ?_
  conv => whnf
  refine hp.call (rzero_spec hp.wf sc) ?_
  clear hp
  rintro _ s rfl hp _
  conv => whnf
  refine hp.alloc (cs := Dc.zero.cells) (e := 4) rfl rfl rfl rfl rfl ?_
  clear hp
  intro p10 s hp _
  conv => whnf
  refine hp.storeW (vs := (mkD 0 sc).cells) rfl (by repeat (first | exact Rm.here | apply Rm.there)) (by first | exact C2_same _ _ _ _ | exact C4_same _ _ _ _ _ _ _ _ | exact Dc_same _ _ | rfl) rfl rfl rfl ?_
  clear hp
  intro s hp _
  conv => whnf
  refine Sm.live [0, 1, 2, 3, 9, 10] ?_
  conv => whnf
  refine Sm.seq ?_
  refine Sm.seqW ?_
  conv => whnf
  refine Sm.live [0, 1, 2, 3, 9, 10, 11] ?_
  conv => whnf
  refine Sm.block ?_
  refine Sm.loop ?_
  refine Lp.ofS (α := Nat × List Ln × Option Nat × Value) (fun x => [(0, .slice a l.length cp), (1, .int .i64 sc), (2, .int .i64 bend), (3, .int .i64 ents), (9, x.2.2.2), (10, .pointer (some ⟨p10, 0, none⟩)), (11, .int .i64 ((2 * x.1 : Nat) : Int))])
    (fun x s' => x.1 ≤ 6 ∧ x.2.1.length = x.1 ∧ linesL sc ents 6 l = x.2.1 ++ linesL sc ents (6 - x.1) (l.drop (2 * x.1)) ∧ 2 * x.1 ≤ l.length ∧ Hp (fun _ => False) z [slA none (.slice a l.length cp) 1 l.length (l.map (Value.int .i64))] [blkA p10 p10 (mkD (sumZ x.2.1) sc).cells 4, onA x.2.2.1 x.2.2.2 6 x.2.1.length (lnC x.2.1)] s') (fun x => 6 - x.1) ?_ (0, [], none, .slice none 0 0) (subK_ok (by refine ⟨rfl, rfl, rfl, rfl, rfl, rfl, rfl, trivial⟩)) ⟨by decide, rfl, rfl, Nat.zero_le _, (hp.nilA 6).pik (by repeat (first | exact Pik.nil | exact Pik.refl _ | exact Rm.here | apply Rm.there | apply Pik.cons | apply Pik.skip))⟩
  clear hp
  rintro ⟨j, out, κo, vo⟩ s ⟨hj, ho, heq, hjl, hp⟩
  simp only at hj ho heq hjl hp
  refine Sm.seq ?_
  refine Sm.seqC (fun e' L' s' => e' = .normal ∧ s' = s ∧ Sub [(0, .slice a l.length cp), (1, .int .i64 sc), (2, .int .i64 bend), (3, .int .i64 ents), (9, vo), (10, .pointer (some ⟨p10, 0, none⟩)), (11, .int .i64 ((2 * j : Nat) : Int)), (25, .bool (decide (2 * j + 1 < l.length ∧ j < 6)))] L') ?_ ?_
  · conv => whnf
    have ei : IntKind.i64.wrap (((2 * j : Nat) : Int) + 1) = ((2 * j + 1 : Nat) : Int) := by rw [wi64 (by omega) (by omega)]; omega
    by_cases h1 : 2 * j + 1 < l.length
    · have q1 : decide (IntKind.i64.wrap (((2 * j : Nat) : Int) + 1) < ((l.length : Nat) : Int)) = true := decide_eq_true (by rw [ei]; omega)
      repeat (first | (refine Br.yes q1 ?_; conv => whnf) | (first | (refine Br.yes (by first | with_reducible rfl | with_reducible exact beq_self_eq_true _ | rfl) ?_; conv => whnf) | (refine Br.no (by first | with_reducible rfl | with_reducible exact bne_self_eq_false _ | rfl) ?_; conv => whnf)))
      exact ⟨rfl, rfl, subK_ok ⟨rfl, rfl, rfl, rfl, rfl, rfl, rfl, congrArg (fun x => some (Value.bool x)) (decide_eq_decide.2 ⟨fun h => ⟨h1, by omega⟩, fun h => by omega⟩), trivial⟩⟩
    · have q1 : decide (IntKind.i64.wrap (((2 * j : Nat) : Int) + 1) < ((l.length : Nat) : Int)) = false := decide_eq_false (by rw [ei]; omega)
      repeat (first | (refine Br.no q1 ?_; conv => whnf) | (first | (refine Br.yes (by first | with_reducible rfl | with_reducible exact beq_self_eq_true _ | rfl) ?_; conv => whnf) | (refine Br.no (by first | with_reducible rfl | with_reducible exact bne_self_eq_false _ | rfl) ?_; conv => whnf)))
      exact ⟨rfl, rfl, subK_ok ⟨rfl, rfl, rfl, rfl, rfl, rfl, rfl, congrArg (fun x => some (Value.bool x)) (decide_eq_false (fun h => h1 h.1)).symm, trivial⟩⟩
  rintro e L' s' ⟨rfl, rfl, hs⟩
  refine Sm.weak _ hs ?_
  clear hs
  refine Sm.ofW ?_
  conv => whnf
  by_cases hc : 2 * j + 1 < l.length ∧ j < 6
  · refine Br.yes (decide_eq_true hc) ?_
    obtain ⟨hc1, hc2⟩ := hc
    obtain ⟨m, hm⟩ : ∃ m, 6 - j = m + 1 := ⟨5 - j, by omega⟩
    have hd : l.drop (2 * j) = l[2 * j] :: l[2 * j + 1] :: l.drop (2 * (j + 1)) := by
      rw [List.drop_eq_getElem_cons (by omega), List.drop_eq_getElem_cons hc1]; rfl
    rw [hm, hd, linesL] at heq
    have hA := hln _ (List.getElem_mem (show 2 * j < l.length by omega))
    have hB := hln _ (List.getElem_mem hc1)
    obtain ⟨f1, f2, f3⟩ := index_i (hp.slR (κ := none) (v := .slice a l.length cp) .here) .i64 (show 2 * j < l.length by omega)
    obtain ⟨f4, f5, f6⟩ := index_i (hp.slR (κ := none) (v := .slice a l.length cp) .here) .i64 hc1
    have ei : IntKind.i64.wrap (((2 * j : Nat) : Int) + 1) = ((2 * j + 1 : Nat) : Int) := by rw [wi64 (by omega) (by omega)]; omega
    generalize hAd : l[2 * j] = A at *
    generalize hBd : l[2 * j + 1] = B at *
    conv => whnf
    refine Sm.seq ?_
    refine Sm.block ?_
    refine Sm.seqW ?_
    conv => whnf
    refine ⟨[0, 0, 3, 7, 15, 0, 0, 64, 224, 480, 0, 2047, 4095, 0, 16383], by decide +kernel, by decide +kernel, ?_⟩
    conv => whnf
    refine Om.of _ (f2) ?_
    conv => whnf
    refine Om.of _ (f3) ?_
    conv => whnf
    refine (pick_spec _ hA (m := 16) (by decide) (by decide)).mono ?_
    rintro _ s1 ⟨h1, rfl⟩
    obtain rfl := h1.symm
    conv => whnf
    refine hp.dkS ?_
    conv => whnf
    rw [ei]
    refine Om.of _ (f5) ?_
    conv => whnf
    refine Om.of _ (f6) ?_
    conv => whnf
    refine hp.rst.call (amount_spec hp.rst.wf hB sc1 sc2) ?_
    rintro _ s1 rfl h1 k1
    conv => whnf
    refine hp.dkN h1 k1 ?_
    clear hp h1 k1
    intro s hp
    conv => whnf
    refine hp.rst.alloc (cs := Ln.zero.cells) (e := 6) rfl rfl rfl rfl rfl ?_
    intro p12 s1 h1 k1
    conv => whnf
    refine hp.dkN h1 k1 ?_
    clear hp h1 k1
    intro s hp
    conv => whnf
    refine hp.rst.storeW (vs := (Ln.mk (A % 16) (mkD (B % 2000001 - 1000000) sc) (-1)).cells) rfl (by repeat (first | exact Rm.here | apply Rm.there)) (by first | exact C2_same _ _ _ _ | exact C4_same _ _ _ _ _ _ _ _ | exact Dc_same _ _ | rfl) rfl rfl rfl ?_
    intro s1 h1 l1
    conv => whnf
    refine hp.dkW h1 l1 ?_
    clear hp h1 l1
    intro s hp
    conv => whnf
    refine Sm.live [0, 1, 2, 3, 9, 10, 11, 12] ?_
    conv => whnf
    have y1 := Int.emod_nonneg B (show (2000001 : Int) ≠ 0 by decide)
    have y2 := Int.emod_lt_of_pos B (show (0 : Int) < 2000001 by decide)
    obtain ⟨y, hy⟩ : ∃ y, y = B % 2000001 - 1000000 := ⟨_, rfl⟩
    rw [← hy] at hp
    have hyb : y.natAbs ≤ 1000000 := by omega
    have hamt : amtY B = if y = 0 then 1 else y := by unfold amtY; rw [← hy]
    obtain ⟨w, hw⟩ : ∃ w, w = (if isWithF (A % 16) = true then (Int.tdiv A 16) % (max 1 ents) else -1) := ⟨_, rfl⟩
    have hmx : (if ents > 1 then ents else 1) = max 1 ents := by split <;> omega
    refine Sm.seqC (fun e' L' s' => e' = .normal ∧ Hp (fun _ => False) z [slA none (.slice a l.length cp) 1 l.length (l.map (Value.int .i64))] [blkA p12 p12 (Ln.mk (A % 16) (mkD y sc) w).cells 6, blkA p10 p10 (mkD (sumZ out) sc).cells 4, onA κo vo 6 out.length (lnC out)] s' ∧ Sub [(0, .slice a l.length cp), (1, .int .i64 sc), (2, .int .i64 bend), (3, .int .i64 ents), (9, vo), (10, .pointer (some ⟨p10, 0, none⟩)), (11, .int .i64 ((2 * j : Nat) : Int)), (12, .pointer (some ⟨p12, 0, none⟩))] L') ?_ ?_
    · conv => whnf
      refine hp.load (v := .int .i64 (A % 16)) (by repeat (first | exact Has.here | apply Has.there | (apply Has.swap; repeat (first | exact HasR.here | apply HasR.there)))) (by rfl) rfl rfl rfl ?_
      conv => whnf
      refine (risWith_spec _ (A % 16)).mono ?_
      rintro _ s1 ⟨h1, rfl⟩
      obtain rfl := h1.symm
      conv => whnf
      cases hq : isWithF (A % 16) with
      | true =>
        rw [if_pos hq] at hw
        repeat (first | (refine Br.yes (by first | with_reducible rfl | with_reducible exact beq_self_eq_true _ | rfl) ?_; conv => whnf) | (refine Br.no (by first | with_reducible rfl | with_reducible exact bne_self_eq_false _ | rfl) ?_; conv => whnf))
        obtain ⟨f1, f2, f3⟩ := index_i (hp.slR (κ := none) (v := .slice a l.length cp) .here) .i64 (show 2 * j < l.length by omega)
        rw [hAd] at f3
        refine Om.of _ (f2) ?_
        conv => whnf
        refine Om.of _ (f3) ?_
        conv => whnf
        refine Om.of _ (quoI (m := 16) (by decide) hA) ?_
        conv => whnf
        refine (pick_spec _ (tdiv_inR (m := 16) (by decide) hA) (m := if ents > 1 then ents else 1) (by rw [hmx]; omega) (by rw [hmx]; omega)).mono ?_
        rintro _ s1 ⟨h1, rfl⟩
        obtain rfl := h1.symm
        conv => whnf
        rw [hmx, ← hw]
        refine hp.store (off := 5) (by repeat (first | exact Rm.here | apply Rm.there)) (by show 5 < 6; decide) rfl rfl rfl rfl ?_
        clear hp
        intro s hp _
        conv => whnf
        exact ⟨rfl, hp, subK_ok ⟨rfl, rfl, rfl, rfl, rfl, rfl, rfl, rfl, trivial⟩⟩
      | false =>
        rw [if_neg (by rw [hq]; decide)] at hw
        repeat (first | (refine Br.yes (by first | with_reducible rfl | with_reducible exact beq_self_eq_true _ | rfl) ?_; conv => whnf) | (refine Br.no (by first | with_reducible rfl | with_reducible exact bne_self_eq_false _ | rfl) ?_; conv => whnf))
        rw [hw]
        exact ⟨rfl, hp, subK_ok ⟨rfl, rfl, rfl, rfl, rfl, rfl, rfl, rfl, trivial⟩⟩
    clear hp
    rintro e' L' s ⟨rfl, hp, hs⟩
    refine Sm.weak _ hs ?_
    clear hs
    have hln2 : lnOf A B sc ents = Ln.mk (A % 16) (mkD (amtY B) sc) w := by unfold lnOf; rw [← hw]
    refine Sm.seqC (fun e' L' s' => e' = .normal ∧ Hp (fun _ => False) z [slA none (.slice a l.length cp) 1 l.length (l.map (Value.int .i64))] [blkA p12 p12 (lnOf A B sc ents).cells 6, blkA p10 p10 (mkD (sumZ out) sc).cells 4, onA κo vo 6 out.length (lnC out)] s' ∧ Sub [(0, .slice a l.length cp), (1, .int .i64 sc), (2, .int .i64 bend), (3, .int .i64 ents), (9, vo), (10, .pointer (some ⟨p10, 0, none⟩)), (11, .int .i64 ((2 * j : Nat) : Int)), (12, .pointer (some ⟨p12, 0, none⟩))] L') ?_ ?_
    · conv => whnf
      rw [hln2]
      refine hp.loadA (l := (mkD y sc).cells) (by repeat (first | exact Has.here | apply Has.there | (apply Has.swap; repeat (first | exact HasR.here | apply HasR.there)))) rfl (by rfl) rfl rfl ?_
      conv => whnf
      refine hp.call (rsign_spec hp.wf (mkD y sc) (by show y.natAbs < w128; simp only [w128]; omega)) ?_
      clear hp
      rintro _ s rfl hp _
      conv => whnf
      have hsg := sign_mk (x := y) (S := sc) (by omega) sc1 sc2
      by_cases h0 : y = 0
      · rw [if_pos h0] at hamt
        refine Br.yes (beq_iff_eq.2 (hsg.2 h0)) ?_
        conv => whnf
        refine hp.call (rof_spec hp.wf (n := 1) (by unfold inR; decide) sc) ?_
        clear hp
        rintro _ s rfl hp _
        conv => whnf
        rw [ofD_mk2 sc1 sc2]
        refine hp.storeA (off := 1) (vs := (mkD 1 sc).cells) rfl (by repeat (first | exact Rm.here | apply Rm.there)) (by show 1 + 4 ≤ 6; decide) rfl rfl rfl ?_
        clear hp
        intro s hp _
        rw [hamt]
        conv => whnf
        exact ⟨rfl, hp, subK_ok ⟨rfl, rfl, rfl, rfl, rfl, rfl, rfl, rfl, trivial⟩⟩
      · rw [if_neg h0] at hamt
        refine Br.no (beq_eq_false_iff_ne.2 (fun h => h0 (hsg.1 h))) ?_
        conv => whnf
        rw [hamt]
        exact ⟨rfl, hp, subK_ok ⟨rfl, rfl, rfl, rfl, rfl, rfl, rfl, rfl, trivial⟩⟩
    clear hp
    rintro e' L' s ⟨rfl, hp, hs⟩
    refine Sm.weak _ hs ?_
    clear hs
    have hx : valI (lnOf A B sc ents).amt = amtY B := by rw [hln2]; exact val_mkD _ _
    have hxa : (lnOf A B sc ents).amt = mkD (amtY B) sc := by rw [hln2]
    have hab := (amtY_b B).2
    have hsb : (sumZ out).natAbs ≤ 6 * 1000000 := by
      have h1 := sumZ_b (M := 1000000) out fun x hx => by
        obtain ⟨p, q, rfl⟩ := linesL_good sc ents 6 l x (by rw [heq]; simp [hx])
        show (valI (mkD (amtY q) sc)).natAbs ≤ _
        rw [val_mkD]; exact (amtY_b q).2
      exact Nat.le_trans h1 (Nat.mul_le_mul_right _ (by rw [ho]; exact Nat.le_of_lt hc2))
    generalize hX : lnOf A B sc ents = x at *
    refine Sm.seqW ?_
    conv => whnf
    refine hp.loadA (l := x.cells) (by repeat (first | exact Has.here | apply Has.there | (apply Has.swap; repeat (first | exact HasR.here | apply HasR.there)))) rfl (by rfl) rfl rfl ?_
    conv => whnf
    refine hp.lit (cs := x.cells) (e := 6) (by rfl) ?_
    clear hp
    intro b4 s4 hp _
    conv => whnf
    have x4 := hp.blkSl (n := 1) (C := x.cells) (k := b4) (b := b4) (e := 6) (by repeat (first | exact Has.here | apply Has.there | (apply Has.swap; repeat (first | exact HasR.here | apply HasR.there)))) rfl
    refine hp.app LT Tryz.underlying24 rfl (κ := κo) (v := vo) (by repeat (first | exact Rm.here | apply Rm.there)) (elems_sl x4) rfl rfl (by omega) ?_
    clear hp x4
    intro v5 κ5 s hp
    rw [← lnC_snoc, show out.length + 1 = (out ++ [x]).length by simp] at hp
    conv => whnf
    refine Sm.live [0, 1, 2, 3, 9, 10, 11, 12] ?_
    conv => whnf
    refine Sm.ofW ?_
    conv => whnf
    refine hp.loadA (l := (mkD (sumZ out) sc).cells) (by repeat (first | exact Has.here | apply Has.there | (apply Has.swap; repeat (first | exact HasR.here | apply HasR.there)))) rfl (by rfl) rfl rfl ?_
    conv => whnf
    refine hp.loadA (l := x.amt.cells) (by repeat (first | exact Has.here | apply Has.there | (apply Has.swap; repeat (first | exact HasR.here | apply HasR.there)))) rfl (by rfl) rfl rfl ?_
    conv => whnf
    have hxv : (Value.agg x.amt.cells.toArray) = (mkD (amtY B) sc).val := by rw [hxa]; rfl
    rw [hxv]
    refine hp.call (radd_spec hp.wf (mkD (sumZ out) sc) (mkD (amtY B) sc) (by show (sumZ out).natAbs < w128; simp only [w128]; omega) (by show (amtY B).natAbs < w128; simp only [w128]; omega)) ?_
    clear hp
    rintro _ s rfl hp _
    conv => whnf
    rw [addF_D, addD_mkD (by omega) (by omega) sc1 sc2]
    have hsum : sumZ out + amtY B = sumZ (out ++ [x]) := by rw [sumZ_app, sumZ_cons, sumZ_nil, hx]; omega
    rw [hsum]
    conv => whnf
    refine hp.storeW (vs := (mkD (sumZ (out ++ [x])) sc).cells) rfl (by repeat (first | exact Rm.here | apply Rm.there)) (by first | exact C2_same _ _ _ _ | exact C4_same _ _ _ _ _ _ _ _ | exact Dc_same _ _ | rfl) rfl rfl rfl ?_
    clear hp
    intro s hp _
    conv => whnf
    refine Sm.ofW ?_
    conv => whnf
    exact ⟨(j + 1, out ++ [x], κ5, v5), by (show 6 - (j + 1) < 6 - j); omega, subK_ok (by refine ⟨rfl, rfl, rfl, rfl, rfl, rfl, congrArg (fun x => some (Value.int .i64 x)) (show IntKind.i64.wrap (((2 * j : Nat) : Int) + 2) = ((2 * (j + 1) : Nat) : Int) by rw [wi64 (by omega) (by omega)]; omega), trivial⟩), by (show j + 1 ≤ 6); omega, by (show (out ++ [x]).length = j + 1); simp; omega, by
      show linesL sc ents 6 l = (out ++ [x]) ++ linesL sc ents (6 - (j + 1)) (l.drop (2 * (j + 1)))
      rw [heq, show 6 - (j + 1) = m by omega]; simp, by (show 2 * (j + 1) ≤ l.length); omega, hp.pik (by repeat (first | exact Pik.nil | exact Pik.refl _ | exact Rm.here | apply Rm.there | apply Pik.cons | apply Pik.skip))⟩
  · refine Br.no (decide_eq_false hc) ?_
    have hend : linesL sc ents 6 l = out := by
      rw [heq, linesL_nil sc ents (by rw [List.length_drop]; omega), List.append_nil]
    have hev := lines_even sc ents l
    rw [hend] at hev
    have hsb : (sumZ out).natAbs < 10 ^ 9 := by
      have h1 := linesL_sum sc ents (Nat.le_refl 6) l
      rw [hend] at h1
      exact Nat.lt_of_le_of_lt h1 (by decide)
    clear heq
    conv => whnf
    obtain ⟨ao, co, rfl⟩ := (hp.slF (κ := κo) (v := vo) (by repeat (first | exact Rm.here | apply Rm.there))).shape
    refine Sm.seqC (fun e' L' s' => e' = .normal ∧ ∃ κ5 v5, Hp (fun _ => False) z [slA none (.slice a l.length cp) 1 l.length (l.map (Value.int .i64))] [onA κ5 v5 6 (lines1 out sc).length (lnC (lines1 out sc))] s' ∧ Sub [(2, .int .i64 bend), (9, v5)] L') ?_ ?_
    · conv => whnf
      refine hp.loadA (l := (mkD (sumZ out) sc).cells) (by repeat (first | exact Has.here | apply Has.there | (apply Has.swap; repeat (first | exact HasR.here | apply HasR.there)))) rfl (by rfl) rfl rfl ?_
      conv => whnf
      refine hp.call (rsign_spec hp.wf (mkD (sumZ out) sc) (by show (sumZ out).natAbs < w128; simp only [w128]; omega)) ?_
      clear hp
      rintro _ s rfl hp _
      conv => whnf
      have hsg := sign_mk (x := sumZ out) (S := sc) (by omega) sc1 sc2
      unfold lines1
      by_cases ho0 : out = []
      · subst ho0
        have q : (!(signF (mkD (sumZ []) sc) == 0)) = false := by rw [beq_iff_eq.2 (hsg.2 rfl)]; rfl
        repeat (first | (refine Br.no q ?_; conv => whnf) | (first | (refine Br.yes (by first | with_reducible rfl | with_reducible exact beq_self_eq_true _ | rfl) ?_; conv => whnf) | (refine Br.no (by first | with_reducible rfl | with_reducible exact bne_self_eq_false _ | rfl) ?_; conv => whnf)))
        refine hp.loadA (l := (mkD 0 sc).cells) (by repeat (first | exact Has.here | apply Has.there | (apply Has.swap; repeat (first | exact HasR.here | apply HasR.there)))) rfl (by rfl) rfl rfl ?_
        conv => whnf
        have hneg : negF (mkD 0 sc) = mkD 0 sc := by rw [neg_mk (by decide) sc1 sc2]; rfl
        refine hp.call (rneg_spec hp.wf (mkD 0 sc) (by show 0 < w128; decide)) ?_
        clear hp
        rintro _ s rfl hp _
        conv => whnf
        rw [hneg]
        refine hp.alloc (cs := Ln.zero.cells) (e := 6) rfl rfl rfl rfl rfl ?_
        clear hp
        intro p13 s hp _
        conv => whnf
        refine hp.storeW (vs := (Ln.mk 0 (mkD 0 sc) (-1)).cells) rfl (by repeat (first | exact Rm.here | apply Rm.there)) (by first | exact C2_same _ _ _ _ | exact C4_same _ _ _ _ _ _ _ _ | exact Dc_same _ _ | rfl) rfl rfl rfl ?_
        clear hp
        intro s hp _
        conv => whnf
        repeat (first | (refine Br.yes (by first | with_reducible rfl | with_reducible exact beq_self_eq_true _ | rfl) ?_; conv => whnf) | (refine Br.no (by first | with_reducible rfl | with_reducible exact bne_self_eq_false _ | rfl) ?_; conv => whnf))
        refine hp.call (rof_spec hp.wf (n := 5) (by unfold inR; decide) sc) ?_
        clear hp
        rintro _ s rfl hp _
        conv => whnf
        rw [ofD_mk2 sc1 sc2]
        refine hp.storeA (off := 1) (vs := (mkD 5 sc).cells) rfl (by repeat (first | exact Rm.here | apply Rm.there)) (by show 1 + 4 ≤ 6; decide) rfl rfl rfl ?_
        clear hp
        intro s hp _
        replace hp : Hp (fun _ => False) z [slA none (.slice a l.length cp) 1 l.length (l.map (Value.int .i64))] [blkA p13 p13 (Ln.mk 0 (mkD 5 sc) (-1)).cells 6, blkA p10 p10 (mkD 0 sc).cells 4, onA κo (.slice ao 0 co) 6 0 (lnC [])] s := hp
        conv => whnf
        refine hp.call (rof_spec hp.wf (n := -5) (by unfold inR; decide) sc) ?_
        clear hp
        rintro _ s rfl hp _
        conv => whnf
        rw [ofD_mk2 sc1 sc2]
        refine hp.lit (cs := (Ln.mk 8 (mkD (-5) sc) (-1)).cells) (e := 6) (by rfl) ?_
        clear hp
        intro b4 s4 hp _
        conv => whnf
        have x4 := hp.blkSl (n := 1) (C := (Ln.mk 8 (mkD (-5) sc) (-1)).cells) (k := b4) (b := b4) (e := 6) (by repeat (first | exact Has.here | apply Has.there | (apply Has.swap; repeat (first | exact HasR.here | apply HasR.there)))) rfl
        refine hp.app LT Tryz.underlying24 rfl (κ := κo) (v := .slice ao 0 co) (by repeat (first | exact Rm.here | apply Rm.there)) (elems_sl x4) rfl rfl (by omega) ?_
        clear hp x4
        intro v5 κ5 s hp
        rw [← lnC_snoc] at hp
        conv => whnf
        refine hp.loadA (l := (Ln.mk 0 (mkD 5 sc) (-1)).cells) (by repeat (first | exact Has.here | apply Has.there | (apply Has.swap; repeat (first | exact HasR.here | apply HasR.there)))) rfl (by rfl) rfl rfl ?_
        conv => whnf
        refine hp.lit (cs := (Ln.mk 0 (mkD 5 sc) (-1)).cells) (e := 6) (by rfl) ?_
        clear hp
        intro b6 s6 hp _
        conv => whnf
        have x4 := hp.blkSl (n := 1) (C := (Ln.mk 0 (mkD 5 sc) (-1)).cells) (k := b6) (b := b6) (e := 6) (by repeat (first | exact Has.here | apply Has.there | (apply Has.swap; repeat (first | exact HasR.here | apply HasR.there)))) rfl
        refine hp.app LT Tryz.underlying24 rfl (κ := κ5) (v := v5) (by repeat (first | exact Rm.here | apply Rm.there)) (elems_sl x4) rfl rfl (by omega) ?_
        clear hp x4
        intro v7 κ7 s hp
        rw [← lnC_snoc] at hp
        conv => whnf
        rw [if_pos (.inr rfl), if_pos rfl]
        exact ⟨rfl, κ7, v7, hp.pik (by repeat (first | exact Pik.nil | exact Pik.refl _ | exact Rm.here | apply Rm.there | apply Pik.cons | apply Pik.skip)), subK_ok ⟨rfl, rfl, trivial⟩⟩
      · have hlen : 0 < out.length := List.length_pos_iff.2 ho0
        have q1 : (((out.length : Nat) : Int) == 0) = false := beq_eq_false_iff_ne.2 (by omega)
        by_cases hs0 : sumZ out = 0
        · have q : (!(signF (mkD (sumZ out) sc) == 0)) = false := by rw [beq_iff_eq.2 (hsg.2 hs0)]; rfl
          repeat (first | (refine Br.no q ?_; conv => whnf) | (refine Br.no q1 ?_; conv => whnf) | (first | (refine Br.yes (by first | with_reducible rfl | with_reducible exact beq_self_eq_true _ | rfl) ?_; conv => whnf) | (refine Br.no (by first | with_reducible rfl | with_reducible exact bne_self_eq_false _ | rfl) ?_; conv => whnf)))
          rw [if_neg (fun h => by rcases h with h | h; exact h hs0; exact ho0 h)]
          exact ⟨rfl, κo, _, hp.pik (by repeat (first | exact Pik.nil | exact Pik.refl _ | exact Rm.here | apply Rm.there | apply Pik.cons | apply Pik.skip)), subK_ok ⟨rfl, rfl, trivial⟩⟩
        · have q : (!(signF (mkD (sumZ out) sc) == 0)) = true := by rw [beq_eq_false_iff_ne.2 (fun h => hs0 (hsg.1 h))]; rfl
          repeat (first | (refine Br.yes q ?_; conv => whnf) | (first | (refine Br.yes (by first | with_reducible rfl | with_reducible exact beq_self_eq_true _ | rfl) ?_; conv => whnf) | (refine Br.no (by first | with_reducible rfl | with_reducible exact bne_self_eq_false _ | rfl) ?_; conv => whnf)))
          refine hp.loadA (l := (mkD (sumZ out) sc).cells) (by repeat (first | exact Has.here | apply Has.there | (apply Has.swap; repeat (first | exact HasR.here | apply HasR.there)))) rfl (by rfl) rfl rfl ?_
          conv => whnf
          refine hp.call (rneg_spec hp.wf (mkD (sumZ out) sc) (by show (sumZ out).natAbs < w128; simp only [w128]; omega)) ?_
          clear hp
          rintro _ s rfl hp _
          conv => whnf
          rw [neg_mk (by omega) sc1 sc2]
          refine hp.alloc (cs := Ln.zero.cells) (e := 6) rfl rfl rfl rfl rfl ?_
          clear hp
          intro p13 s hp _
          conv => whnf
          refine hp.storeW (vs := (Ln.mk 0 (mkD (-(sumZ out)) sc) (-1)).cells) rfl (by repeat (first | exact Rm.here | apply Rm.there)) (by first | exact C2_same _ _ _ _ | exact C4_same _ _ _ _ _ _ _ _ | exact Dc_same _ _ | rfl) rfl rfl rfl ?_
          clear hp
          intro s hp _
          conv => whnf
          repeat (first | (refine Br.no q1 ?_; conv => whnf) | (first | (refine Br.yes (by first | with_reducible rfl | with_reducible exact beq_self_eq_true _ | rfl) ?_; conv => whnf) | (refine Br.no (by first | with_reducible rfl | with_reducible exact bne_self_eq_false _ | rfl) ?_; conv => whnf)))
          refine hp.loadA (l := (Ln.mk 0 (mkD (-(sumZ out)) sc) (-1)).cells) (by repeat (first | exact Has.here | apply Has.there | (apply Has.swap; repeat (first | exact HasR.here | apply HasR.there)))) rfl (by rfl) rfl rfl ?_
          conv => whnf
          refine hp.lit (cs := (Ln.mk 0 (mkD (-(sumZ out)) sc) (-1)).cells) (e := 6) (by rfl) ?_
          clear hp
          intro b6 s6 hp _
          conv => whnf
          have x4 := hp.blkSl (n := 1) (C := (Ln.mk 0 (mkD (-(sumZ out)) sc) (-1)).cells) (k := b6) (b := b6) (e := 6) (by repeat (first | exact Has.here | apply Has.there | (apply Has.swap; repeat (first | exact HasR.here | apply HasR.there)))) rfl
          refine hp.app LT Tryz.underlying24 rfl (κ := κo) (v := .slice ao out.length co) (by repeat (first | exact Rm.here | apply Rm.there)) (elems_sl x4) rfl rfl (by omega) ?_
          clear hp x4
          intro v7 κ7 s hp
          rw [← lnC_snoc, show out.length + 1 = (out ++ [Ln.mk 0 (mkD (-(sumZ out)) sc) (-1)]).length by simp] at hp
          conv => whnf
          rw [if_pos (.inl hs0), if_neg ho0]
          exact ⟨rfl, κ7, v7, hp.pik (by repeat (first | exact Pik.nil | exact Pik.refl _ | exact Rm.here | apply Rm.there | apply Pik.cons | apply Pik.skip)), subK_ok ⟨rfl, rfl, trivial⟩⟩
    · clear hp
      rintro e' L' s ⟨rfl, κ5, v5, hp, hs⟩
      refine Sm.weak _ hs ?_
      clear hs
      have hls : ∀ x ∈ lines1 out sc, MemLn x := fun x hx => (hev.good x hx).mem en2
      have hl7 := hev.len
      generalize hLS : lines1 out sc = ls at *
      clear hsb
      obtain ⟨k, hk, hk2⟩ : ∃ k : Nat, (bend.tdiv 20) % (ls.length : Int) = k ∧ k < ls.length := by
        have h1 := Int.emod_nonneg (bend.tdiv 20) (show (ls.length : Int) ≠ 0 by omega)
        have h2 := Int.emod_lt_of_pos (bend.tdiv 20) (show (0 : Int) < (ls.length : Int) by omega)
        exact ⟨((bend.tdiv 20) % (ls.length : Int)).toNat, by omega, by omega⟩
      obtain ⟨kb, b5, rfl, hlc, hp⟩ := hp.onBlk (κ := κ5) (v := v5) (by repeat (first | exact Rm.here | apply Rm.there)) (by omega)
      have hix := idx_at (P := Tryz.prog) LT (b := b5) (off := 0) (c := ls.length) (n := ls.length) .i64 hk2
      rw [Nat.zero_add] at hix
      have hset : ∀ (y : Ln) (s' : St), MemLn y → (bend = 0 → False) → Hp (fun _ => False) z [slA none (.slice a l.length cp) 1 l.length (l.map (Value.int .i64))] [blkA kb b5 (lnC (ls.set k y)) 6] s' → K0 z s' ∧ LinesAns z l sc bend ents (.slice (some ⟨b5, 0, none⟩) ls.length ls.length) s' := by
        intro y s' hy hb0 hp
        have h9 := hp.blkO (n := ls.length) (by repeat (first | exact Rm.here | apply Rm.there)) (by rw [lnC_len, List.length_set])
        have h10 := h9.out (by repeat (first | exact Rm.here | apply Rm.there))
        have e : (ls.set k y).length = ls.length := List.length_set
        refine ⟨hp.fr, ans_own (ls := ls.set k y) (by rw [e]; exact h10) (by rw [e]; exact hl7.1) (by rw [e]; omega) (fun x hx => ?_) (fun h => (hb0 h).elim)⟩
        rcases mem_set hx with g | g
        · rw [g]; exact hy
        · exact hls x g
      have hmk := hls _ (List.getElem_mem hk2)
      refine Sm.seqW ?_
      conv => whnf
      refine Om.of _ (quoI (m := 20) (by decide) hb) ?_
      conv => whnf
      refine (pick_spec _ (tdiv_inR (m := 20) (by decide) hb) (m := (ls.length : Int)) (by omega) (by omega)).mono ?_
      rintro _ s1 ⟨h1, rfl⟩
      obtain rfl := h1.symm
      conv => whnf
      rw [hk]
      refine Sm.live [2, 9, 14] ?_
      conv => whnf
      refine Sm.seq ?_
      refine Sm.seqW ?_
      conv => whnf
      refine (pick_spec _ hb (m := 20) (by decide) (by decide)).mono ?_
      rintro _ s1 ⟨h1, rfl⟩
      obtain rfl := h1.symm
      conv => whnf
      refine Sm.live [2, 9, 14, 104] ?_
      conv => whnf
      refine Sm.ofW ?_
      conv => whnf
      have pk : ∀ (m : Int), 0 < m → 0 ≤ (bend.tdiv 160) % m ∧ (bend.tdiv 160) % m < m := fun m h => ⟨Int.emod_nonneg _ (by omega), Int.emod_lt_of_pos _ h⟩
      by_cases h12 : bend % 20 = 12
      · refine Br.yes (beq_iff_eq.2 h12) ?_
        conv => whnf
        refine Om.of _ (quoI (m := 160) (by decide) hb) ?_
        conv => whnf
        refine (pick_spec _ (tdiv_inR (m := 160) (by decide) hb) (m := 19) (by decide) (by decide)).mono ?_
        rintro _ s1 ⟨h1, rfl⟩
        obtain rfl := h1.symm
        conv => whnf
        have p1 := pk 19 (by decide)
        rw [wi64 (n := (bend.tdiv 160) % 19 - 2) (by omega) (by omega)]
        refine Om.of _ (hix) ?_
        conv => whnf
        refine hp.store (off := k * 6 + 0) (by repeat (first | exact Rm.here | apply Rm.there)) (by rw [lnC_len]; omega) rfl rfl rfl rfl ?_
        clear hp
        intro s hp _
        rw [lnC_set (y := ⟨(bend.tdiv 160) % 19 - 2, ls[k].amt, ls[k].wth⟩) hk2 (by decide) rfl] at hp
        conv => whnf
        refine Sm.seqW ?_
        conv => whnf
        refine Sm.live [8] ?_
        conv => whnf
        refine Sm.ofW ?_
        conv => whnf
        exact ⟨hset ⟨(bend.tdiv 160) % 19 - 2, ls[k].amt, ls[k].wth⟩ _ ⟨by (show (bend.tdiv 160) % 19 - 2 < 100); omega, hmk.wth, hmk.amt⟩ (fun h => by rw [h] at h12; exact absurd h12 (by decide)) hp⟩
      refine Br.no (beq_eq_false_iff_ne.2 h12) ?_
      conv => whnf
      by_cases h13 : bend % 20 = 13
      · refine Br.yes (beq_iff_eq.2 h13) ?_
        conv => whnf
        refine Om.of _ (quoI (m := 7) (by decide) hb) ?_
        conv => whnf
        refine Om.of _ (quoI (m := 160) (by decide) hb) ?_
        conv => whnf
        refine hp.call (hdec_spec hp.wf hb (tdiv_inR (m := 7) (by decide) hb) (tdiv_inR (m := 160) (by decide) hb)) ?_
        clear hp
        rintro _ s ⟨d, hd1, hd2, rfl⟩ hp _
        conv => whnf
        refine Om.of _ (hix) ?_
        conv => whnf
        refine hp.storeA (off := k * 6 + 1) (vs := d.cells) rfl (by repeat (first | exact Rm.here | apply Rm.there)) (by rw [lnC_len]; show k * 6 + 1 + 4 ≤ _; omega) rfl rfl rfl ?_
        clear hp
        intro s hp _
        rw [lnC_put (y := ⟨ls[k].acct, d, ls[k].wth⟩) hk2 rfl (by show 1 + 4 ≤ 6; decide)] at hp
        conv => whnf
        refine Sm.seqW ?_
        conv => whnf
        refine Sm.live [8] ?_
        conv => whnf
        refine Sm.ofW ?_
        conv => whnf
        exact ⟨hset ⟨ls[k].acct, d, ls[k].wth⟩ _ ⟨hmk.acct, hmk.wth, hd1⟩ (fun h => by rw [h] at h13; exact absurd h13 (by decide)) hp⟩
      refine Br.no (beq_eq_false_iff_ne.2 h13) ?_
      conv => whnf
      by_cases h14 : bend % 20 = 14
      · refine Br.yes (beq_iff_eq.2 h14) ?_
        conv => whnf
        refine Om.of _ (quoI (m := 160) (by decide) hb) ?_
        conv => whnf
        refine (pick_spec _ (tdiv_inR (m := 160) (by decide) hb) (m := 11) (by decide) (by decide)).mono ?_
        rintro _ s1 ⟨h1, rfl⟩
        obtain rfl := h1.symm
        conv => whnf
        have p1 := pk 11 (by decide)
        rw [wi64 (n := (bend.tdiv 160) % 11 - 2) (by omega) (by omega)]
        refine Om.of _ (hix) ?_
        conv => whnf
        refine hp.store (off := k * 6 + 5) (by repeat (first | exact Rm.here | apply Rm.there)) (by rw [lnC_len]; omega) rfl rfl rfl rfl ?_
        clear hp
        intro s hp _
        rw [lnC_set (y := ⟨ls[k].acct, ls[k].amt, (bend.tdiv 160) % 11 - 2⟩) hk2 (by decide) rfl] at hp
        conv => whnf
        refine Sm.seqW ?_
        conv => whnf
        refine Sm.live [8] ?_
        conv => whnf
        refine Sm.ofW ?_
        conv => whnf
        exact ⟨hset ⟨ls[k].acct, ls[k].amt, (bend.tdiv 160) % 11 - 2⟩ _ ⟨hmk.acct, by (show (bend.tdiv 160) % 11 - 2 < 100); omega, hmk.amt⟩ (fun h => by rw [h] at h14; exact absurd h14 (by decide)) hp⟩
      refine Br.no (beq_eq_false_iff_ne.2 h14) ?_
      conv => whnf
      by_cases h15 : bend % 20 = 15
      · refine Br.yes (beq_iff_eq.2 h15) ?_
        conv => whnf
        replace hp := hp.blkO (n := ls.length) (by repeat (first | exact Rm.here | apply Rm.there)) hlc
        refine Lp.ofS (α := List Ln × Option Nat × Value) (fun x => [(2, .int .i64 bend), (9, x.2.2)])
          (fun x s' => 1 ≤ x.1.length ∧ x.1.length ≤ 9 ∧ (∀ y ∈ x.1, MemLn y) ∧ Hp (fun _ => False) z [slA none (.slice a l.length cp) 1 l.length (l.map (Value.int .i64))] [onA x.2.1 x.2.2 6 x.1.length (lnC x.1)] s') (fun x => 9 - x.1.length) ?_ (ls, _, _) (subK_ok (by refine ⟨rfl, rfl, trivial⟩)) ⟨hl7.1, by show ls.length ≤ 9; omega, hls, hp⟩
        clear hp hset
        rintro ⟨L, κL, vL⟩ s ⟨hL1, hL9, hLm, hp⟩
        simp only at hL1 hL9 hLm hp
        obtain ⟨aL, cL, rfl⟩ := (hp.slF (κ := κL) (v := vL) (by repeat (first | exact Rm.here | apply Rm.there))).shape
        refine Sm.seq ?_
        refine Sm.seqW ?_
        conv => whnf
        refine Sm.live [2, 9, 141] ?_
        conv => whnf
        refine Sm.ofW ?_
        conv => whnf
        refine Br.mk (fun hc => ?_) (fun hc => ?_)
        · have hc : L.length < 9 := by have : ((L.length : Nat) : Int) < 9 := of_decide_eq_true hc; omega
          obtain ⟨e, f1, f2⟩ := index_ln (hp.slF (κ := κL) (v := .slice aL L.length cL) (by repeat (first | exact Rm.here | apply Rm.there))) .i64 (i := 0) hL1
          have hm0 := hLm _ (List.getElem_mem (show 0 < L.length from hL1))
          generalize hx0 : L[0] = x at *
          conv => whnf
          refine Sm.block ?_
          refine Sm.ofW ?_
          conv => whnf
          refine Om.of _ (f1) ?_
          conv => whnf
          refine Om.of _ (f2) ?_
          conv => whnf
          refine hp.lit (cs := x.cells) (e := 6) (by rfl) ?_
          clear hp
          intro b4 s4 hp _
          conv => whnf
          have x4 := hp.blkSl (n := 1) (C := x.cells) (k := b4) (b := b4) (e := 6) (by repeat (first | exact Has.here | apply Has.there | (apply Has.swap; repeat (first | exact HasR.here | apply HasR.there)))) rfl
          refine hp.app LT Tryz.underlying24 rfl (κ := κL) (v := .slice aL L.length cL) (by repeat (first | exact Rm.here | apply Rm.there)) (elems_sl x4) rfl rfl (by omega) ?_
          clear hp x4
          intro v5 κ5 s hp
          rw [← lnC_snoc, show L.length + 1 = (L ++ [x]).length by simp] at hp
          conv => whnf
          exact ⟨(L ++ [x], κ5, v5), by (show 9 - (L ++ [x]).length < 9 - L.length); simp; omega, subK_ok (by refine ⟨rfl, rfl, trivial⟩), by (show 1 ≤ (L ++ [x]).length); simp, by (show (L ++ [x]).length ≤ 9); simp; omega, fun y hy => by
            rcases List.mem_append.1 hy with g | g
            · exact hLm y g
            · obtain rfl := List.mem_singleton.1 g; exact hm0, hp.pik (by repeat (first | exact Pik.nil | exact Pik.refl _ | exact Rm.here | apply Rm.there | apply Pik.cons | apply Pik.skip))⟩
        · have hc : L.length = 9 := by have : ¬ ((L.length : Nat) : Int) < 9 := of_decide_eq_false hc; omega
          conv => whnf
          refine Om.of _ (quoI (m := 160) (by decide) hb) ?_
          conv => whnf
          refine (pick_spec _ (tdiv_inR (m := 160) (by decide) hb) (m := 3) (by decide) (by decide)).mono ?_
          rintro _ s1 ⟨h1, rfl⟩
          obtain rfl := h1.symm
          conv => whnf
          have p1 := pk 3 (by decide)
          obtain ⟨m, hm⟩ : ∃ m : Nat, 7 + (bend.tdiv 160) % 3 = m := ⟨(7 + (bend.tdiv 160) % 3).toNat, by omega⟩
          rw [wi64 (n := 7 + (bend.tdiv 160) % 3) (by omega) (by omega), hm]
          obtain ⟨v', f1, f2⟩ := slice_sl LT (hp.slF (κ := κL) (v := .slice aL L.length cL) (by repeat (first | exact Rm.here | apply Rm.there))) .i64 .i64 none (some m) (by simp) (by simp only [Option.getD_some]; omega)
          refine Om.of _ (f1) ?_
          conv => whnf
          refine Sm.seqW ?_
          conv => whnf
          refine Sm.live [8] ?_
          conv => whnf
          refine Sm.ofW ?_
          conv => whnf
          simp only [Option.getD_some, Option.getD_none, Nat.zero_mul, List.drop_zero, Nat.sub_zero] at f2
          have et : (lnC L).take (m * 6) = lnC (L.take m) := by
            have e1 : L = L.take m ++ L.drop m := (List.take_append_drop _ _).symm
            conv => lhs; rw [e1, lnC_app]
            exact List.take_left' (by rw [lnC_len, List.length_take]; omega)
          rw [et] at f2
          have elen : (L.take m).length = m := by rw [List.length_take]; omega
          refine ⟨hp.fr, ⟨L.take m, κL, by rw [Sln, elen]; exact f2, fun j hj => ?_, by omega, by omega, fun x hx => hLm x (List.mem_of_mem_take hx), fun h => by rw [h] at h15; exact absurd h15 (by decide)⟩⟩
          rcases hp.own _ (List.mem_cons_self ..) j hj with g | g
          · exact g.elim
          · exact g
      refine Br.no (beq_eq_false_iff_ne.2 h15) ?_
      conv => whnf
      by_cases h16 : bend % 20 = 16
      · refine Br.yes (beq_iff_eq.2 h16) ?_
        conv => whnf
        refine Om.of _ (hix) ?_
        conv => whnf
        refine hp.loadA (l := ls[k].amt.cells) (by repeat (first | exact Has.here | apply Has.there | (apply Has.swap; repeat (first | exact HasR.here | apply HasR.there)))) rfl (lnC_sl hk2) rfl rfl ?_
        conv => whnf
        refine hp.call (rneg_spec hp.wf ls[k].amt hmk.amt) ?_
        clear hp
        rintro _ s rfl hp _
        conv => whnf
        refine Om.of _ (hix) ?_
        conv => whnf
        refine hp.storeA (off := k * 6 + 1) (vs := (negF ls[k].amt).cells) rfl (by repeat (first | exact Rm.here | apply Rm.there)) (by rw [lnC_len]; show k * 6 + 1 + 4 ≤ _; omega) rfl rfl rfl ?_
        clear hp
        intro s hp _
        rw [lnC_put (y := ⟨ls[k].acct, negF ls[k].amt, ls[k].wth⟩) hk2 rfl (by show 1 + 4 ≤ 6; decide)] at hp
        conv => whnf
        refine Sm.seqW ?_
        conv => whnf
        refine Sm.live [8] ?_
        conv => whnf
        refine Sm.ofW ?_
        conv => whnf
        have hnc : (negF ls[k].amt).c < w128 := by
          unfold negF
          split
          · exact hmk.amt
          · show 0 < w128; decide
        exact ⟨hset ⟨ls[k].acct, negF ls[k].amt, ls[k].wth⟩ _ ⟨hmk.acct, hmk.wth, hnc⟩ (fun h => by rw [h] at h16; exact absurd h16 (by decide)) hp⟩
      refine Br.no (beq_eq_false_iff_ne.2 h16) ?_
      conv => whnf
      refine Sm.seqW ?_
      conv => whnf
      refine Sm.live [8] ?_
      conv => whnf
      refine Sm.ofW ?_
      conv => whnf
      have h9 := hp.blkO (n := ls.length) (by repeat (first | exact Rm.here | apply Rm.there)) hlc
      exact ⟨hp.fr, ans_own (h9.out (by repeat (first | exact Rm.here | apply Rm.there))) hl7.1 (by omega) hls (fun _ => by rw [hend]; exact hLS.symm)⟩
end Go.Ev
end

/- Lines that are alike; chapter 12's example. No condition. -/
noncomputable section
namespace Go.Ev
open Go.Proofs
variable [Lk]
set_option linter.unusedSectionVars false
set_option linter.unusedVariables false
set_option maxRecDepth 100000

theorem ln_e (a b : Ln) : evEq Tryz.prog 10000 35 a.val b.val = some (a.acct == b.acct && ((a.amt.neg == b.amt.neg && ((((a.amt.c % w64 : Nat) : Int) == ((b.amt.c % w64 : Nat) : Int) && ((a.amt.c / w64 : Nat) : Int) == ((b.amt.c / w64 : Nat) : Int)) && a.amt.scale == b.amt.scale)) && a.wth == b.wth)) := by
  obtain ⟨aa, ⟨an, ac, ae⟩, aw⟩ := a
  obtain ⟨ba, ⟨bn, bc, be⟩, bw⟩ := b
  have key : ∀ qa q1 q2 r qw : Bool, (aa == ba) = qa → (((ac % w64 : Nat) : Int) == ((bc % w64 : Nat) : Int)) = q1 → (((ac / w64 : Nat) : Int) == ((bc / w64 : Nat) : Int)) = q2 → (ae == be) = r → (aw == bw) = qw → evEq Tryz.prog 10000 35 (Ln.val ⟨aa, ⟨an, ac, ae⟩, aw⟩) (Ln.val ⟨ba, ⟨bn, bc, be⟩, bw⟩) = some (qa && ((an == bn && ((q1 && q2) && r)) && qw)) := by
    intro qa q1 q2 r qw h0 h1 h2 h3 h4
    cases an <;> cases bn
    all_goals first
      | (show (match (some (aa == ba) : Option Bool) with | some true => (match (match (match (some (((ac % w64 : Nat) : Int) == ((bc % w64 : Nat) : Int)) : Option Bool) with | some true => (match (some (((ac / w64 : Nat) : Int) == ((bc / w64 : Nat) : Int)) : Option Bool) with | some true => some true | some false => some false | none => none) | some false => some false | none => none) with | some true => (match (some (ae == be) : Option Bool) with | some true => some true | some false => some false | none => none) | some false => some false | none => none) with | some true => (match (some (aw == bw) : Option Bool) with | some true => some true | some false => some false | none => none) | some false => some false | none => none) | some false => some false | none => none) = _
         rw [h0, h1, h2, h3, h4]
         cases qa <;> cases q1 <;> cases q2 <;> cases r <;> cases qw <;> rfl)
      | (show (match (some (aa == ba) : Option Bool) with | some true => some false | some false => some false | none => none) = _
         rw [h0]
         cases qa <;> rfl)
  exact key _ _ _ _ _ rfl rfl rfl rfl rfl
def eqLn (a b : Ln) : Bool := a.acct == b.acct && (eqD a.amt b.amt && a.wth == b.wth)
theorem ln_ne (a b : Ln) (c : Bool) : evBin Tryz.prog .neq 35 c a.val b.val = some (.bool (!eqLn a b)) := by
  have hg : Tryz.prog.eqGuardType Tryz.prog.depth 35 = false := by decide +kernel
  show (match !(Tryz.prog.eqGuardType Tryz.prog.depth 35) with | false => none | true => (match evEq Tryz.prog 10000 35 a.val b.val with | some b => some (Value.bool (!b)) | none => none)) = _
  rw [hg, ln_e, words_eq]; rfl
theorem eqLn_self (a : Ln) : eqLn a a = true := by
  unfold eqLn eqD
  simp
theorem eqLn_iff {a b : Ln} : eqLn a b = true ↔ a = b := by
  constructor
  · intro h
    unfold eqLn eqD at h
    simp only [Bool.and_eq_true, beq_iff_eq, decide_eq_true_eq] at h
    obtain ⟨aa, ⟨an, ac, ae⟩, aw⟩ := a
    obtain ⟨ba, ⟨bn, bc, be⟩, bw⟩ := b
    simp only at h
    obtain ⟨h1, ⟨h2, h3, h4⟩, h5⟩ := h
    subst h1 h2 h3 h4 h5
    rfl
  · rintro rfl; exact eqLn_self a
def exT : List UInt8 := [48, 58, 49, 48, 46, 53, 48, 44, 56, 58, 45, 49, 48, 46, 53, 48]
def exL : List Ln := [⟨0, ⟨false, 1050, 2⟩, -1⟩, ⟨8, ⟨true, 1050, 2⟩, -1⟩]
theorem ex_read : readL exT = (exL, 0) := by kernel_rfl
theorem ex_print : printL exL = exT := by kernel_rfl
theorem ex_right : rightLF exL 2 = 0 := by kernel_rfl
theorem eknown_spec {z : St} (wf : WF z) (hg : Gs z) : Cw Tryz.prog 17 [] z fun r s' => K0 z s' ∧ r = .bool true := by
  have hp : Hp (fun _ => False) z [] [] z := Hp.start _ wf _ (by simp)
  refine Cw.enterS Tryz.func17 rfl rfl ?_
  refine Sm.seqW ?_
  conv => whnf
  refine Sm.seqW ?_
  conv => whnf
  refine hp.call (eread_spec hp.wf hg exT (by decide)) ?_
  intro r s hr h1 k1
  obtain ⟨w, rfl, how⟩ := hr
  rw [ex_read] at how ⊢
  obtain ⟨κ, hp⟩ := hp.on k1 how
  clear h1 k1 how
  obtain ⟨aw, cw, rfl⟩ := (hp.slF (κ := κ) (v := w) (by repeat (first | exact Rm.here | apply Rm.there))).shape
  conv => whnf
  refine Sm.live [1, 2] ?_
  conv => whnf
  refine Sm.seqW ?_
  conv => whnf
  refine ⟨[0, 1, 3, 7, 15, 31, 63, 127, 255, 511, 1023, 255, 2303, 8191, 16383, 32767, 65535, 131071, 262143, 524287, 1048575, 2097151, 4194303, 8388607, 16777215, 33554431], by decide +kernel, by decide +kernel, ?_⟩
  conv => whnf
  have hmem : ∀ x ∈ exL, MemLn x := by
    intro x hx
    simp only [exL, List.mem_cons, List.not_mem_nil, or_false] at hx
    rcases hx with rfl | rfl <;> exact ⟨by decide, by decide, by decide⟩
  repeat (first | (refine Br.yes (by first | with_reducible rfl | with_reducible exact beq_self_eq_true _ | rfl) ?_; conv => whnf) | (refine Br.no (by first | with_reducible rfl | with_reducible exact bne_self_eq_false _ | rfl) ?_; conv => whnf))
  obtain ⟨e, f1, f2⟩ := index_ln (hp.slF (κ := κ) (v := .slice aw exL.length cw) (by repeat (first | exact Rm.here | apply Rm.there))) .i64 (i := 1) (by decide)
  refine Om.of _ (f1) ?_
  conv => whnf
  repeat (first | (refine Br.yes (by first | with_reducible rfl | with_reducible exact beq_self_eq_true _ | rfl) ?_; conv => whnf) | (refine Br.no (by first | with_reducible rfl | with_reducible exact bne_self_eq_false _ | rfl) ?_; conv => whnf))
  refine Om.of _ (f2) ?_
  conv => whnf
  repeat (first | (refine Br.yes (by first | with_reducible rfl | with_reducible exact beq_self_eq_true _ | rfl) ?_; conv => whnf) | (refine Br.no (by first | with_reducible rfl | with_reducible exact bne_self_eq_false _ | rfl) ?_; conv => whnf))
  refine hp.rst.call (rof_spec hp.rst.wf (n := -1050) (by unfold inR; decide) 2) ?_
  rintro _ s1 rfl h1 k1
  conv => whnf
  refine hp.dkN h1 k1 ?_
  clear hp h1 k1
  intro s hp
  conv => whnf
  repeat (first | (refine Br.yes (by first | with_reducible rfl | with_reducible exact beq_self_eq_true _ | rfl) ?_; conv => whnf) | (refine Br.no (by first | with_reducible rfl | with_reducible exact bne_self_eq_false _ | rfl) ?_; conv => whnf))
  refine Om.of (.bool true) (by kernel_rfl) ?_
  conv => whnf
  repeat (first | (refine Br.yes (by first | with_reducible rfl | with_reducible exact beq_self_eq_true _ | rfl) ?_; conv => whnf) | (refine Br.no (by first | with_reducible rfl | with_reducible exact bne_self_eq_false _ | rfl) ?_; conv => whnf))
  refine hp.rst.call (eright_spec hp.rst.wf (hp.rst.slF (κ := κ) (v := .slice aw exL.length cw) (by repeat (first | exact Rm.here | apply Rm.there))) (fun x hx => (hmem x hx).amt) (by decide) 2) ?_
  rintro _ s1 rfl h1 k1
  conv => whnf
  refine hp.dkN h1 k1 ?_
  clear hp h1 k1
  intro s hp
  conv => whnf
  rw [ex_right]
  repeat (first | (refine Br.yes (by first | with_reducible rfl | with_reducible exact beq_self_eq_true _ | rfl) ?_; conv => whnf) | (refine Br.no (by first | with_reducible rfl | with_reducible exact bne_self_eq_false _ | rfl) ?_; conv => whnf))
  refine hp.rst.call (eprint_spec hp.rst.wf (hp.rst.slF (κ := κ) (v := .slice aw exL.length cw) (by repeat (first | exact Rm.here | apply Rm.there))) hmem (by decide)) ?_
  rintro _ s1 rfl h1 k1
  conv => whnf
  refine hp.dkN h1 k1 ?_
  clear hp h1 k1
  intro s hp
  conv => whnf
  rw [ex_print]
  repeat (first | (refine Br.yes (by first | with_reducible rfl | with_reducible exact beq_self_eq_true _ | rfl) ?_; conv => whnf) | (refine Br.no (by first | with_reducible rfl | with_reducible exact bne_self_eq_false _ | rfl) ?_; conv => whnf))
  refine Om.of _ (sv_eq exT exT) ?_
  conv => whnf
  repeat (first | (refine Br.yes (by first | with_reducible rfl | with_reducible exact beq_self_eq_true _ | rfl) ?_; conv => whnf) | (refine Br.no (by first | with_reducible rfl | with_reducible exact bne_self_eq_false _ | rfl) ?_; conv => whnf))
  refine Sm.live [0] ?_
  conv => whnf
  refine Sm.ofW ?_
  conv => whnf
  exact ⟨hp.fr, rfl⟩
end Go.Ev
end

/- EntryLimits walked. No condition. -/
noncomputable section
namespace Go.Ev
open Go.Proofs
variable [Lk]
set_option linter.unusedSectionVars false
set_option linter.unusedVariables false
set_option maxRecDepth 100000

theorem hlines0_spec {z : St} (wf : WF z) {v : Value} {l : List Int} (hv : Sl z none v 1 l.length (l.map (Value.int .i64))) (hl : l.length ≤ 140737488351232) (hln : ∀ n ∈ l, inR n) {sc : Int} (sc1 : 0 ≤ sc) (sc2 : sc ≤ 9) :
    Cw Tryz.prog 13 [v, .int .i64 sc, .int .i64 0, .int .i64 4] z fun r s' => K0 z s' ∧ ∃ ls, Even sc 4 ls ∧ OwnN z.next s' r 6 ls.length (lnC ls) :=
  (hlines_spec wf hv hl hln sc1 sc2 (bend := 0) (by unfold inR; decide) (ents := 4) (by decide) (by decide)).mono fun r s' ⟨h1, h2⟩ => by
    obtain ⟨ls, κ, g1, g2, g3, g4, g5, g6⟩ := h2.ex
    obtain ⟨g7, g8⟩ := g6 rfl
    exact ⟨h1, ls, by rw [g7]; exact lines_even sc 4 l, g8⟩
theorem mod5 (x : Int) : 0 ≤ x % 5 ∧ x % 5 < 5 := ⟨Int.emod_nonneg _ (by decide), Int.emod_lt_of_pos _ (by decide)⟩
theorem right_scale {x : Ln} {sc : Int} (h : x.amt.scale ≠ sc) : rightLn x sc = false := by
  unfold rightLn
  rw [beq_eq_false_iff_ne.2 h]; simp
end Go.Ev
end

/- EntryBack walked. No condition. -/
noncomputable section
namespace Go.Ev
open Go.Proofs
variable [Lk]
set_option linter.unusedSectionVars false
set_option linter.unusedVariables false
set_option maxRecDepth 100000

instance lnDec : DecidableEq Ln := fun a b => decidable_of_iff (eqLn a b = true) eqLn_iff
theorem esame_spec {z : St} (wf : WF z) {κ κ' : Option Nat} {v w : Value} {a b : List Ln} (hv : Sln z κ v a) (hw : Sln z κ' w b) (ha : a.length ≤ 1000) :
    Cw Tryz.prog 25 [v, w] z fun r s' => K0 z s' ∧ r = .bool (decide (a = b)) := by
  obtain ⟨a1, c1, rfl⟩ := hv.shape
  obtain ⟨a2, c2, rfl⟩ := hw.shape
  have hp : Hp (fun _ => False) z [slA κ (.slice a1 a.length c1) 6 a.length (lnC a), slA κ' (.slice a2 b.length c2) 6 b.length (lnC b)] [] z := Hp.start _ wf _ (by simp; exact ⟨hv, hw⟩)
  refine Cw.enterS Tryz.func25 rfl rfl ?_
  refine Sm.seqW ?_
  conv => whnf
  refine Sm.live [0, 1] ?_
  conv => whnf
  refine Sm.seq ?_
  refine Sm.seqW ?_
  conv => whnf
  refine Sm.live [0, 1, 10] ?_
  conv => whnf
  refine Sm.ofW ?_
  conv => whnf
  by_cases hl : a.length = b.length
  · refine Br.no (by show (!(((a.length : Nat) : Int) == ((b.length : Nat) : Int))) = false; rw [beq_iff_eq.2 (by omega)]; rfl) ?_
    conv => whnf
    refine Sm.seq ?_
    refine Sm.seqW ?_
    conv => whnf
    refine Sm.live [0, 1, 12, 13] ?_
    conv => whnf
    refine Sm.block ?_
    refine Sm.loop ?_
    refine Lp.ofS (α := Nat) (fun i => [(0, .slice a1 a.length c1), (1, .slice a2 b.length c2), (12, .int .i64 ((a.length : Nat) : Int)), (13, .int .i64 (i : Int))])
      (fun i s' => i ≤ a.length ∧ a.take i = b.take i ∧ Hp (fun _ => False) z [slA κ (.slice a1 a.length c1) 6 a.length (lnC a), slA κ' (.slice a2 b.length c2) 6 b.length (lnC b)] [] s') (fun i => a.length - i) ?_ 0 (subK_ok (by refine ⟨rfl, rfl, rfl, rfl, trivial⟩)) ⟨Nat.zero_le _, rfl, hp⟩
    clear hp
    rintro i s ⟨hi, heq, hp⟩
    refine Sm.seqW ?_
    conv => whnf
    refine Sm.live [0, 1, 12, 13, 14] ?_
    conv => whnf
    refine Sm.seq ?_
    refine Sm.ofW ?_
    conv => whnf
    refine Br.mk (fun hc => ?_) (fun hc => ?_)
    · have hc : i < a.length := by have : (i : Int) < ((a.length : Nat) : Int) := of_decide_eq_true hc; omega
      obtain ⟨e1, f1, f2⟩ := index_ln (hp.slR (κ := κ) (v := .slice a1 a.length c1) .here) .i64 hc
      obtain ⟨e2, f3, f4⟩ := index_ln (hp.slR (κ := κ') (v := .slice a2 b.length c2) (.there .here)) .i64 (show i < b.length by omega)
      conv => whnf
      refine Sm.seq ?_
      refine Sm.block ?_
      refine Sm.seqW ?_
      conv => whnf
      refine Sm.live [0, 1, 5, 12, 13] ?_
      conv => whnf
      refine Sm.seqW ?_
      conv => whnf
      refine ⟨[0, 0, 3, 7, 0, 0, 48, 112, 255], by decide +kernel, by decide +kernel, ?_⟩
      conv => whnf
      refine Om.of _ (f1) ?_
      conv => whnf
      refine Om.of _ (f2) ?_
      conv => whnf
      refine Om.of _ (f3) ?_
      conv => whnf
      refine Om.of _ (f4) ?_
      conv => whnf
      refine Om.of _ (ln_ne a[i] (b[i]'(by omega)) _) ?_
      conv => whnf
      refine Sm.live [0, 1, 12, 13, 24] ?_
      conv => whnf
      refine Sm.ofW ?_
      conv => whnf
      have t1 : a.take (i + 1) = a.take i ++ [a[i]] := List.take_succ_eq_append_getElem hc
      have t2 : b.take (i + 1) = b.take i ++ [b[i]'(by omega)] := List.take_succ_eq_append_getElem (by omega)
      cases hq : eqLn a[i] (b[i]'(by omega)) with
      | true =>
        repeat (first | (refine Br.yes (by first | with_reducible rfl | with_reducible exact beq_self_eq_true _ | rfl) ?_; conv => whnf) | (refine Br.no (by first | with_reducible rfl | with_reducible exact bne_self_eq_false _ | rfl) ?_; conv => whnf))
        refine Sm.ofW ?_
        conv => whnf
        exact ⟨i + 1, by (show a.length - (i + 1) < a.length - i); omega, subK_ok (by refine ⟨rfl, rfl, rfl, congrArg (fun x => some (Value.int .i64 x)) (show IntKind.i64.wrap ((i : Int) + 1) = ((i + 1 : Nat) : Int) by rw [wi64 (by omega) (by omega)]; omega), trivial⟩), by omega, by rw [t1, t2, heq, eqLn_iff.1 hq], hp⟩
      | false =>
        repeat (first | (refine Br.yes (by first | with_reducible rfl | with_reducible exact beq_self_eq_true _ | rfl) ?_; conv => whnf) | (refine Br.no (by first | with_reducible rfl | with_reducible exact bne_self_eq_false _ | rfl) ?_; conv => whnf))
        refine ⟨hp.fr, congrArg Value.bool (decide_eq_false (fun h => ?_)).symm⟩
        have : a[i] = b[i]'(by omega) := by simp [h]
        rw [eqLn_iff.2 this] at hq; cases hq
    · have hc : i = a.length := by have : ¬ (i : Int) < ((a.length : Nat) : Int) := of_decide_eq_false hc; omega
      subst hc
      rw [List.take_length, hl, List.take_length] at heq
      conv => whnf
      refine Sm.seqW ?_
      conv => whnf
      refine Sm.live [4] ?_
      conv => whnf
      refine Sm.ofW ?_
      conv => whnf
      exact ⟨hp.fr, congrArg Value.bool (decide_eq_true heq).symm⟩
  · refine Br.yes (by show (!(((a.length : Nat) : Int) == ((b.length : Nat) : Int))) = true; rw [beq_eq_false_iff_ne.2 (by omega)]; rfl) ?_
    conv => whnf
    exact ⟨hp.fr, congrArg Value.bool (decide_eq_false (fun h => hl (by rw [h]))).symm⟩
theorem entryBack_walk {s0 : St} (wf : WF s0) (hg : Gs s0) {v : Value} {z : List Int} (hv : Sl s0 none v 1 z.length (z.map (Value.int .i64))) (hl : z.length ≤ 140737488351232) (hz : ∀ n ∈ z, inR n) {scale : Int} (hs : inR scale) :
    Cw Tryz.prog 7 [v, .int .i64 scale] s0 fun r _ => r = .bool true := by
  have hp : Hp (fun _ => False) s0 [slA none v 1 z.length (z.map (Value.int .i64))] [] s0 := Hp.start _ wf _ (by simp; exact hv)
  refine Cw.enterS Tryz.func7 rfl rfl ?_
  refine Sm.seqW ?_
  conv => whnf
  refine Sm.live [0, 1] ?_
  conv => whnf
  refine Sm.seqW ?_
  conv => whnf
  refine (pick_spec _ hs (m := 5) (by decide) (by decide)).mono ?_
  rintro _ s1 ⟨h1, rfl⟩
  obtain rfl := h1.symm
  conv => whnf
  obtain ⟨sc1, sc2⟩ := mod5 scale
  generalize scale % 5 = sc at *
  refine Sm.live [0, 1] ?_
  conv => whnf
  refine Sm.seqW ?_
  conv => whnf
  refine hp.call (hlines0_spec hp.wf hv hl hz sc1 (by omega)) ?_
  intro v5 s ⟨ls, hev, how_⟩ h1 k1
  obtain ⟨κ5, hp⟩ := hp.on k1 how_
  clear h1 k1 how_
  have hl7 := hev.len
  have hmL : ∀ x ∈ ls, MemLn x := fun x hx => (hev.good x hx).mem (by decide)
  have hmem : ∀ x ∈ ls, x.amt.c < w128 := fun x hx => (hmL x hx).amt
  have htx : ∀ x ∈ ls, TxtLn x := fun x hx => (hev.good x hx).txt sc1 (by omega) (by decide)
  have hrd := read_printL htx ⟨hl7.1, by omega⟩
  obtain ⟨het, htt⟩ := hev.turn sc1 (by omega)
  have hR1 := hev.rightLF sc1 (by omega) (by decide)
  have hR2 := het.rightLF sc1 (by omega) (by decide)
  have hmT : ∀ x ∈ ls.map turnL, x.amt.c < w128 := fun x hx => ((het.good x hx).mem (by decide)).amt
  have hlT : (ls.map turnL).length = ls.length := List.length_map ..
  obtain ⟨a5, c5, rfl⟩ := (hp.slF (κ := κ5) (v := v5) (by repeat (first | exact Rm.here | apply Rm.there))).shape
  conv => whnf
  refine Sm.live [1, 5] ?_
  conv => whnf
  refine Sm.seqW ?_
  conv => whnf
  refine hp.call (eprint_spec hp.wf (hp.slF (κ := κ5) (v := .slice a5 ls.length c5) (by repeat (first | exact Rm.here | apply Rm.there))) hmL (by omega)) ?_
  clear hp
  rintro _ s rfl hp _
  conv => whnf
  have hpl : (printL ls).length ≤ 10000000000000 := by
    have := lines_le ls
    unfold printL
    split
    · simp
    · omega
  refine hp.call (eread_spec hp.wf (hg.keep hp.fr) (printL ls) hpl) ?_
  intro r s hr h1 k1
  obtain ⟨w6, rfl, how_⟩ := hr
  rw [hrd] at how_ ⊢
  obtain ⟨κ6, hp⟩ := hp.on k1 how_
  clear h1 k1 how_
  obtain ⟨a6, c6, rfl⟩ := (hp.slF (κ := κ6) (v := w6) (by repeat (first | exact Rm.here | apply Rm.there))).shape
  conv => whnf
  refine Sm.live [1, 5, 6, 7] ?_
  conv => whnf
  refine Sm.seqW ?_
  conv => whnf
  refine hp.callO (eturned_spec hp.wf (hp.slF (κ := κ5) (v := .slice a5 ls.length c5) (by repeat (first | exact Rm.here | apply Rm.there))) hmem (by omega)) ?_
  clear hp
  intro v8 κ8 s hp _
  obtain ⟨a8, c8, rfl⟩ := (hp.slF (κ := κ8) (v := v8) (by repeat (first | exact Rm.here | apply Rm.there))).shape
  conv => whnf
  refine Sm.live [1, 5, 6, 7, 8] ?_
  conv => whnf
  refine Sm.seqW ?_
  conv => whnf
  refine hp.call (rzero_spec hp.wf sc) ?_
  clear hp
  rintro _ s rfl hp _
  conv => whnf
  refine hp.alloc (cs := Dc.zero.cells) (e := 4) rfl rfl rfl rfl rfl ?_
  clear hp
  intro p9 s hp _
  conv => whnf
  refine hp.storeW (vs := (mkD 0 sc).cells) rfl (by repeat (first | exact Rm.here | apply Rm.there)) (by first | exact C2_same _ _ _ _ | exact C4_same _ _ _ _ _ _ _ _ | exact Dc_same _ _ | rfl) rfl rfl rfl ?_
  clear hp
  intro s hp _
  conv => whnf
  refine Sm.live [1, 5, 6, 7, 8, 9] ?_
  conv => whnf
  refine Sm.seq ?_
  refine Sm.seqW ?_
  conv => whnf
  refine Sm.live [1, 5, 6, 7, 8, 9, 29, 30, 31] ?_
  conv => whnf
  refine Sm.block ?_
  refine Sm.loop ?_
  refine Lp.ofS (α := Nat) (fun i => [(1, .int .i64 sc), (5, .slice a5 ls.length c5), (6, .slice a6 ls.length c6), (7, .int .i64 0), (8, .slice a8 (ls.map turnL).length c8), (9, .pointer (some ⟨p9, 0, none⟩)), (29, .slice a5 ls.length c5), (30, .int .i64 ((ls.length : Nat) : Int)), (31, .int .i64 (i : Int))])
    (fun i s' => i ≤ ls.length ∧ Hp (fun _ => False) s0 [slA none v 1 z.length (z.map (Value.int .i64))] [blkA p9 p9 (mkD (sumZ (ls.take i)) sc).cells 4, onA κ8 (.slice a8 (ls.map turnL).length c8) 6 (ls.map turnL).length (lnC (ls.map turnL)), onA κ6 (.slice a6 ls.length c6) 6 ls.length (lnC ls), onA κ5 (.slice a5 ls.length c5) 6 ls.length (lnC ls)] s') (fun i => ls.length - i) ?_ 0 (subK_ok (by refine ⟨rfl, rfl, rfl, rfl, rfl, rfl, rfl, rfl, rfl, trivial⟩)) ⟨Nat.zero_le _, hp⟩
  clear hp
  rintro i s ⟨hi, hp⟩
  refine Sm.seqW ?_
  conv => whnf
  refine Sm.live [1, 5, 6, 7, 8, 9, 29, 30, 31, 32] ?_
  conv => whnf
  refine Sm.seq ?_
  refine Sm.ofW ?_
  conv => whnf
  refine Br.mk (fun hc => ?_) (fun hc => ?_)
  · have hc : i < ls.length := by have : (i : Int) < ((ls.length : Nat) : Int) := of_decide_eq_true hc; omega
    obtain ⟨e, g1, g2⟩ := index_ln (hp.slF (κ := κ5) (v := .slice a5 ls.length c5) (by repeat (first | exact Rm.here | apply Rm.there))) .i64 hc
    have htk : ls.take (i + 1) = ls.take i ++ [ls[i]] := List.take_succ_eq_append_getElem hc
    have hgx := hev.good _ (List.getElem_mem hc)
    have hsb : (sumZ (ls.take i)).natAbs ≤ 7 * 6000000 := by
      have h1 := sumZ_b (M := 6000000) (ls.take i) fun x hx => by
        obtain ⟨y, q1, q2, q3⟩ := (hev.good x (List.mem_of_mem_take hx)).amt
        rw [q3, val_mkD]; exact q2
      exact Nat.le_trans h1 (Nat.mul_le_mul_right _ (by rw [List.length_take]; omega))
    generalize hw : ls[i] = x at *
    obtain ⟨y, q1, q2, q3⟩ := hgx.amt
    conv => whnf
    refine Sm.seq ?_
    refine Sm.block ?_
    refine Sm.seqW ?_
    conv => whnf
    refine Om.of _ (g1) ?_
    conv => whnf
    refine Om.of _ (g2) ?_
    conv => whnf
    refine hp.alloc (cs := Ln.zero.cells) (e := 6) rfl rfl rfl rfl rfl ?_
    clear hp
    intro p11 s hp _
    conv => whnf
    refine hp.storeW (vs := x.cells) rfl (by repeat (first | exact Rm.here | apply Rm.there)) (by first | exact C2_same _ _ _ _ | exact C4_same _ _ _ _ _ _ _ _ | exact Dc_same _ _ | rfl) rfl rfl rfl ?_
    clear hp
    intro s hp _
    conv => whnf
    refine Sm.live [1, 5, 6, 7, 8, 9, 11, 29, 30, 31] ?_
    conv => whnf
    refine Sm.seqW ?_
    conv => whnf
    refine hp.loadA (l := (mkD (sumZ (ls.take i)) sc).cells) (by repeat (first | exact Has.here | apply Has.there | (apply Has.swap; repeat (first | exact HasR.here | apply HasR.there)))) rfl (by rfl) rfl rfl ?_
    conv => whnf
    refine hp.loadA (l := x.amt.cells) (by repeat (first | exact Has.here | apply Has.there | (apply Has.swap; repeat (first | exact HasR.here | apply HasR.there)))) rfl (by rfl) rfl rfl ?_
    conv => whnf
    have hxv : (Value.agg x.amt.cells.toArray) = (mkD y sc).val := by rw [q3]; rfl
    rw [hxv]
    refine hp.call (decAdd_spec hp.wf (mkD (sumZ (ls.take i)) sc) (mkD y sc) (by show (sumZ (ls.take i)).natAbs < w128; simp only [w128]; omega) (by show y.natAbs < w128; simp only [w128]; omega)) ?_
    clear hp
    rintro _ s rfl hp _
    conv => whnf
    rw [addF_D, addD_mkD (by omega) (by omega) sc1 (by omega)]
    have hsum : sumZ (ls.take i) + y = sumZ (ls.take (i + 1)) := by rw [htk, sumZ_app, sumZ_cons, sumZ_nil, q3, val_mkD]; omega
    rw [hsum]
    conv => whnf
    refine hp.alloc (cs := Dc.zero.cells) (e := 4) rfl rfl rfl rfl rfl ?_
    clear hp
    intro p12 s hp _
    conv => whnf
    refine hp.storeW (vs := (mkD (sumZ (ls.take (i + 1))) sc).cells) rfl (by repeat (first | exact Rm.here | apply Rm.there)) (by first | exact C2_same _ _ _ _ | exact C4_same _ _ _ _ _ _ _ _ | exact Dc_same _ _ | rfl) rfl rfl rfl ?_
    clear hp
    intro s hp _
    conv => whnf
    refine Sm.live [1, 5, 6, 7, 8, 9, 12, 13, 29, 30, 31] ?_
    conv => whnf
    refine Sm.seq ?_
    refine Sm.seqW ?_
    conv => whnf
    refine Sm.ofW ?_
    conv => whnf
    repeat (first | (refine Br.yes (by first | with_reducible rfl | with_reducible exact beq_self_eq_true _ | rfl) ?_; conv => whnf) | (refine Br.no (by first | with_reducible rfl | with_reducible exact bne_self_eq_false _ | rfl) ?_; conv => whnf))
    refine Sm.ofW ?_
    conv => whnf
    refine hp.loadA (l := (mkD (sumZ (ls.take (i + 1))) sc).cells) (by repeat (first | exact Has.here | apply Has.there | (apply Has.swap; repeat (first | exact HasR.here | apply HasR.there)))) rfl (by rfl) rfl rfl ?_
    conv => whnf
    refine hp.storeW (vs := (mkD (sumZ (ls.take (i + 1))) sc).cells) rfl (by repeat (first | exact Rm.here | apply Rm.there)) (by first | exact C2_same _ _ _ _ | exact C4_same _ _ _ _ _ _ _ _ | exact Dc_same _ _ | rfl) rfl rfl rfl ?_
    clear hp
    intro s hp _
    conv => whnf
    refine Sm.ofW ?_
    conv => whnf
    exact ⟨i + 1, by (show ls.length - (i + 1) < ls.length - i); omega, subK_ok (by refine ⟨rfl, rfl, rfl, rfl, rfl, rfl, rfl, rfl, congrArg (fun x => some (Value.int .i64 x)) (show IntKind.i64.wrap ((i : Int) + 1) = ((i + 1 : Nat) : Int) by rw [wi64 (by omega) (by omega)]; omega), trivial⟩), by omega, hp.pik (by repeat (first | exact Pik.nil | exact Pik.refl _ | exact Rm.here | apply Rm.there | apply Pik.cons | apply Pik.skip))⟩
  · have hc : i = ls.length := by have : ¬ (i : Int) < ((ls.length : Nat) : Int) := of_decide_eq_false hc; omega
    subst hc
    rw [List.take_length, hev.sum] at hp
    conv => whnf
    refine Sm.seqW ?_
    conv => whnf
    refine hp.call (eknown_spec hp.wf (hg.keep hp.fr)) ?_
    clear hp
    rintro _ s rfl hp _
    conv => whnf
    repeat (first | (refine Br.yes (by first | with_reducible rfl | with_reducible exact beq_self_eq_true _ | rfl) ?_; conv => whnf) | (refine Br.no (by first | with_reducible rfl | with_reducible exact bne_self_eq_false _ | rfl) ?_; conv => whnf))
    refine hp.call (esame_spec hp.wf (hp.slF (κ := κ5) (v := .slice a5 ls.length c5) (by repeat (first | exact Rm.here | apply Rm.there))) (hp.slF (κ := κ6) (v := .slice a6 ls.length c6) (by repeat (first | exact Rm.here | apply Rm.there))) (by omega)) ?_
    clear hp
    rintro _ s rfl hp _
    conv => whnf
    rw [decide_eq_true (rfl : ls = ls)]
    repeat (first | (refine Br.yes (by first | with_reducible rfl | with_reducible exact beq_self_eq_true _ | rfl) ?_; conv => whnf) | (refine Br.no (by first | with_reducible rfl | with_reducible exact bne_self_eq_false _ | rfl) ?_; conv => whnf))
    refine hp.call (eright_spec hp.wf (hp.slF (κ := κ5) (v := .slice a5 ls.length c5) (by repeat (first | exact Rm.here | apply Rm.there))) hmem (by omega) sc) ?_
    clear hp
    rintro _ s rfl hp _
    conv => whnf
    rw [hR1]
    repeat (first | (refine Br.yes (by first | with_reducible rfl | with_reducible exact beq_self_eq_true _ | rfl) ?_; conv => whnf) | (refine Br.no (by first | with_reducible rfl | with_reducible exact bne_self_eq_false _ | rfl) ?_; conv => whnf))
    refine hp.call (eright_spec hp.wf (hp.slF (κ := κ8) (v := .slice a8 (ls.map turnL).length c8) (by repeat (first | exact Rm.here | apply Rm.there))) hmT (by omega) sc) ?_
    clear hp
    rintro _ s rfl hp _
    conv => whnf
    rw [hR2]
    repeat (first | (refine Br.yes (by first | with_reducible rfl | with_reducible exact beq_self_eq_true _ | rfl) ?_; conv => whnf) | (refine Br.no (by first | with_reducible rfl | with_reducible exact bne_self_eq_false _ | rfl) ?_; conv => whnf))
    refine hp.callO (eturned_spec hp.wf (hp.slF (κ := κ8) (v := .slice a8 (ls.map turnL).length c8) (by repeat (first | exact Rm.here | apply Rm.there))) hmT (by omega)) ?_
    clear hp
    intro v9 κ9 s hp _
    rw [htt] at hp
    obtain ⟨a9, c9, rfl⟩ := (hp.slF (κ := κ9) (v := v9) (by repeat (first | exact Rm.here | apply Rm.there))).shape
    conv => whnf
    repeat (first | (refine Br.yes (by first | with_reducible rfl | with_reducible exact beq_self_eq_true _ | rfl) ?_; conv => whnf) | (refine Br.no (by first | with_reducible rfl | with_reducible exact bne_self_eq_false _ | rfl) ?_; conv => whnf))
    refine hp.call (esame_spec hp.wf (hp.slF (κ := κ9) (v := .slice a9 ls.length c9) (by repeat (first | exact Rm.here | apply Rm.there))) (hp.slF (κ := κ5) (v := .slice a5 ls.length c5) (by repeat (first | exact Rm.here | apply Rm.there))) (by omega)) ?_
    clear hp
    rintro _ s rfl hp _
    conv => whnf
    rw [decide_eq_true (rfl : ls = ls)]
    repeat (first | (refine Br.yes (by first | with_reducible rfl | with_reducible exact beq_self_eq_true _ | rfl) ?_; conv => whnf) | (refine Br.no (by first | with_reducible rfl | with_reducible exact bne_self_eq_false _ | rfl) ?_; conv => whnf))
    refine hp.loadA (l := (mkD 0 sc).cells) (by repeat (first | exact Has.here | apply Has.there | (apply Has.swap; repeat (first | exact HasR.here | apply HasR.there)))) rfl (by rfl) rfl rfl ?_
    conv => whnf
    repeat (first | (refine Br.yes (by first | with_reducible rfl | with_reducible exact beq_self_eq_true _ | rfl) ?_; conv => whnf) | (refine Br.no (by first | with_reducible rfl | with_reducible exact bne_self_eq_false _ | rfl) ?_; conv => whnf))
    refine hp.call (dsign_spec hp.wf (mkD 0 sc) (by show 0 < w128; decide)) ?_
    clear hp
    rintro _ s rfl hp _
    conv => whnf
    rw [(sign_mk (x := 0) (S := sc) (by decide) sc1 (by omega)).2 rfl]
    repeat (first | (refine Br.yes (by first | with_reducible rfl | with_reducible exact beq_self_eq_true _ | rfl) ?_; conv => whnf) | (refine Br.no (by first | with_reducible rfl | with_reducible exact bne_self_eq_false _ | rfl) ?_; conv => whnf))
    by_cases h0 : sc = 0
    · have q : (sc == 0) = true := beq_iff_eq.2 h0
      repeat (first | (refine Br.yes q ?_; conv => whnf) | (first | (refine Br.yes (by first | with_reducible rfl | with_reducible exact beq_self_eq_true _ | rfl) ?_; conv => whnf) | (refine Br.no (by first | with_reducible rfl | with_reducible exact bne_self_eq_false _ | rfl) ?_; conv => whnf)))
      refine Sm.live [4] ?_
      conv => whnf
      refine Sm.ofW ?_
      conv => whnf
      exact ⟨rfl⟩
    · have q : (sc == 0) = false := beq_eq_false_iff_ne.2 h0
      repeat (first | (refine Br.no q ?_; conv => whnf) | (first | (refine Br.yes (by first | with_reducible rfl | with_reducible exact beq_self_eq_true _ | rfl) ?_; conv => whnf) | (refine Br.no (by first | with_reducible rfl | with_reducible exact bne_self_eq_false _ | rfl) ?_; conv => whnf)))
      rw [wi64 (n := sc - 1) (by omega) (by omega)]
      refine hp.call (eright_spec hp.wf (hp.slF (κ := κ5) (v := .slice a5 ls.length c5) (by repeat (first | exact Rm.here | apply Rm.there))) hmem (by omega) (sc - 1)) ?_
      clear hp
      rintro _ s rfl hp _
      conv => whnf
      have hR3 : rightLF ls (sc - 1) = 1 := by
        have hg0 := hev.good _ (List.getElem_mem (show 0 < ls.length by omega))
        obtain ⟨y, q1, q2, q3⟩ := hg0.amt
        refine right_bad (List.getElem_mem (show 0 < ls.length by omega)) (right_scale ?_)
        rw [q3]; show sc ≠ sc - 1; omega
      rw [hR3]
      repeat (first | (refine Br.no q ?_; conv => whnf) | (first | (refine Br.yes (by first | with_reducible rfl | with_reducible exact beq_self_eq_true _ | rfl) ?_; conv => whnf) | (refine Br.no (by first | with_reducible rfl | with_reducible exact bne_self_eq_false _ | rfl) ?_; conv => whnf)))
      refine Sm.live [4] ?_
      conv => whnf
      refine Sm.ofW ?_
      conv => whnf
      exact ⟨rfl⟩
end Go.Ev
end

/- EntryEven walked. No condition. -/
noncomputable section
namespace Go.Ev
open Go.Proofs
variable [Lk]
set_option linter.unusedSectionVars false
set_option linter.unusedVariables false
set_option maxRecDepth 100000

theorem Even.turned {sc ents : Int} {ls : List Ln} (h : Even sc ents ls) {n : Nat} (hn : n ≤ ls.length) : Even sc ents (ls.drop n ++ ls.take n) := by
  have e1 : sumZ ls = sumZ (ls.take n) + sumZ (ls.drop n) := by rw [← sumZ_app, List.take_append_drop]
  refine ⟨fun x hx => ?_, ?_, ?_⟩
  · rcases List.mem_append.1 hx with g | g
    · exact h.good x (List.mem_of_mem_drop g)
    · exact h.good x (List.mem_of_mem_take g)
  · have := h.sum
    rw [sumZ_app]; omega
  · have := h.len
    simp only [List.length_append, List.length_drop, List.length_take]; omega
end Go.Ev
end

/- EntryKnown walked. No condition. -/
noncomputable section
namespace Go.Ev
open Go.Proofs
variable [Lk]
set_option linter.unusedSectionVars false
set_option linter.unusedVariables false
set_option maxRecDepth 100000

end Go.Ev
end
