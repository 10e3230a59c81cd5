/- Several texts in one: what the law's text leans on, one behind the other. No condition but those that each theorem names. -/
import Derived.Test.YtcjonnndpkohoaaDoorGDecTells3
/- The document's Print. No condition. -/
noncomputable section
namespace Go.Ev
open Go.Proofs
set_option linter.unusedVariables false
set_option maxRecDepth 100000

def preF (c sc k : Nat) : List UInt8 := if sc < k ∧ 0 < sc then (pl c k).reverse.take (k - sc) ++ 46 :: (pl c k).reverse.drop (k - sc) else (pl c k).reverse
theorem preF_step (c sc k : Nat) : preF c sc (k + 1) = dch c k :: (if k = sc ∧ 0 < k then 46 :: preF c sc k else preF c sc k) := by
  unfold preF
  rw [pl_succ, List.reverse_append, List.reverse_singleton, List.singleton_append]
  by_cases h0 : 0 < sc
  · by_cases h1 : k < sc
    · rw [if_neg (by omega), if_neg (by omega), if_neg (by omega)]
    · by_cases h2 : k = sc
      · subst h2
        rw [if_pos ⟨by omega, h0⟩, if_pos ⟨rfl, h0⟩, if_neg (by omega), show k + 1 - k = 1 by omega]
        rfl
      · rw [if_pos ⟨by omega, h0⟩, if_neg (by omega), if_pos ⟨by omega, h0⟩, show k + 1 - sc = (k - sc) + 1 by omega]
        rfl
  · rw [if_neg (by omega), if_neg (by omega), if_neg (by omega)]
theorem preF_len (c sc k : Nat) : (preF c sc k).length ≤ k + 1 := by
  unfold preF
  split
  · simp [pl_len]; omega
  · simp [pl_len]
theorem Vd_digit : ∀ (l : List Nat) (k : Nat), (∀ d ∈ l, d < 10) → l.getD k 0 = Vd l / 10 ^ k % 10
  | [], k, _ => by simp [Vd]
  | d :: l, 0, h => by
    have := h d (List.mem_cons_self ..)
    show d = (d + 10 * Vd l) / 10 ^ 0 % 10
    rw [Nat.pow_zero, Nat.div_one]; omega
  | d :: l, k + 1, h => by
    have hd := h d (List.mem_cons_self ..)
    show l.getD k 0 = (d + 10 * Vd l) / 10 ^ (k + 1) % 10
    rw [Vd_digit l k (fun x hx => h x (List.mem_cons_of_mem _ hx)), Nat.pow_succ', ← Nat.div_div_eq_div_mul, show (d + 10 * Vd l) / 10 = Vd l by omega]
theorem u8_dig : ∀ d, d < 10 → IntKind.u8.wrap (IntKind.i64.wrap (48 + ((d : Nat) : Int))) = (((UInt8.ofNat (48 + d)).toNat : Nat) : Int) := by decide +kernel
theorem printF_pre {ng : Bool} {c k : Nat} (hr : (Dc.mk ng c (k : Int)).right = true) : printF ⟨ng, c, k⟩ = (if ng = true then [45] else []) ++ preF c k (np c k) := by
  unfold printF preF
  rw [hr, if_neg (by decide)]
  simp only [Int.toNat_natCast]
  have hn := np_ge c k
  generalize np c k = n at *
  congr 1
  by_cases h : 0 < k
  · rw [if_pos (show (0 : Int) < (k : Int) by omega), if_pos ⟨hn, h⟩]; rfl
  · obtain rfl : k = 0 := by omega
    rw [if_neg (show ¬ (0 : Int) < ((0 : Nat) : Int) by omega), if_neg (by omega), List.append_nil, List.take_of_length_le (by simp [pl_len])]
theorem rprint_spec {z : St} (wf : WF z) (d : Dc) (hd : d.c < w128) : Cw Tryd.prog 35 [d.val] z fun r s' => K0 z s' ∧ r = sv (printF d) := by
  have hp : Hp (fun _ => False) z [] [] z := Hp.start _ wf _ (by simp)
  refine Cw.enterS Tryd.func35 rfl rfl ?_
  refine Sm.seqW ?_
  conv => whnf
  refine hp.var (cs := d.cells) (e := 4) rfl rfl ?_
  clear hp
  intro p1 s hp _
  conv => whnf
  refine Sm.live [1] ?_
  conv => whnf
  refine Sm.seq ?_
  refine Sm.seqW ?_
  conv => whnf
  refine hp.loadA (l := d.cells) (by repeat (first | exact Has.here | apply Has.there | (apply Has.swap; repeat (first | exact HasR.here | apply HasR.there)))) rfl (by rfl) rfl rfl ?_
  conv => whnf
  refine hp.call (rightDec_spec hp.wf d hd) ?_
  clear hp
  rintro _ s rfl hp _
  conv => whnf
  cases hr : d.right with
  | false =>
    refine Sm.live [1, 8] ?_
    conv => whnf
    refine Sm.ofW ?_
    conv => whnf
    repeat (first | (refine Br.yes (by first | with_reducible rfl | with_reducible exact beq_self_eq_true _ | rfl) ?_; conv => whnf) | (refine Br.no (by first | with_reducible rfl | with_reducible exact bne_self_eq_false _ | rfl) ?_; conv => whnf))
    exact ⟨hp.fr, by rw [show printF d = [] from if_pos hr]; rfl⟩
  | true =>
    refine Sm.live [1, 8] ?_
    conv => whnf
    refine Sm.ofW ?_
    conv => whnf
    repeat (first | (refine Br.yes (by first | with_reducible rfl | with_reducible exact beq_self_eq_true _ | rfl) ?_; conv => whnf) | (refine Br.no (by first | with_reducible rfl | with_reducible exact bne_self_eq_false _ | rfl) ?_; conv => whnf))
    obtain ⟨a1, a2, a3⟩ := Dc.right_c hr
    obtain ⟨ng, c, sc⟩ := d
    simp only at hd a1 a2 a3
    obtain ⟨k, rfl⟩ : ∃ k : Nat, sc = k := ⟨sc.toNat, by omega⟩
    rw [printF_pre hr]
    have hnp := np_le a1 (show k ≤ 9 by omega)
    have hmore : ∀ i, i < np c k ↔ i ≤ k ∨ 0 < c / 10 ^ i := fun i => np_more
    generalize np c k = n at *
    refine Sm.seqW ?_
    conv => whnf
    refine hp.loadA (l := C2 (c % w64) (c / w64)) (by repeat (first | exact Has.here | apply Has.there | (apply Has.swap; repeat (first | exact HasR.here | apply HasR.there)))) rfl (by rfl) rfl rfl ?_
    conv => whnf
    refine hp.call (nat2_spec hp.wf hd) ?_
    intro v5 s5 h5 g5 k5
    obtain ⟨κ5, l5, hnew, d5, e5, n5⟩ := hp.nd k5 h5
    clear hp g5 h5 k5
    have hp := hnew
    clear hnew
    conv => whnf
    obtain ⟨aV, cV, rfl⟩ := (show Sd _ κ5 v5 l5 from (hp.okF (slA κ5 v5 1 l5.length (natI l5)) (by simp))).shape
    have hsm : ∀ i, i < l5.length ↔ 0 < c / 10 ^ i := fun i => by
      have h1 := d5.small i
      rw [e5] at h1
      have hp10 := p10 i
      constructor
      · intro g
        have : ¬ c < 10 ^ i := fun q => by have := h1.1 q; omega
        exact Nat.div_pos (by omega) hp10
      · intro g
        rcases Nat.lt_or_ge i l5.length with q | q
        · exact q
        · have := h1.2 q
          rw [Nat.div_eq_of_lt this] at g; exact absurd g (by decide)
    have hdg : ∀ i, l5.getD i 0 = c / 10 ^ i % 10 := fun i => by rw [Vd_digit l5 i d5.lt, e5]
    clear d5 e5
    refine Sm.live [1, 3] ?_
    conv => whnf
    refine Sm.seqW ?_
    conv => whnf
    refine Sm.live [1, 3, 4] ?_
    conv => whnf
    refine Sm.seq ?_
    refine Sm.seqW ?_
    conv => whnf
    refine Sm.live [1, 3, 4, 5] ?_
    conv => whnf
    refine Sm.block ?_
    refine Sm.loop ?_
    refine Lp.ofS (α := Nat) (fun i => [(1, .pointer (some ⟨p1, 0, none⟩)), (3, .slice aV l5.length cV), (4, sv (preF c k i)), (5, .int .i64 (i : Int))])
      (fun i s' => i ≤ n ∧ Hp (fun _ => False) z [] [slA κ5 (.slice aV l5.length cV) 1 l5.length (natI l5), blkA p1 p1 (Dc.mk ng c (k : Int)).cells 4] s') (fun i => n - i) ?_ 0 (subK_ok (by refine ⟨rfl, rfl, congrArg (fun x => some (sv x)) (show [] = preF c k 0 from (if_neg (by omega)).symm), rfl, trivial⟩)) ⟨Nat.zero_le _, hp.pik (by repeat (first | exact Pik.nil | exact Pik.refl _ | exact Rm.here | apply Rm.there | apply Pik.cons | apply Pik.skip))⟩
    clear hp
    rintro i s ⟨hi, hp⟩
    have hm := hmore i
    have hs := hsm i
    refine Sm.seq ?_
    refine Sm.seqC (fun e L' s' => e = .normal ∧ s' = s ∧ Sub [(1, .pointer (some ⟨p1, 0, none⟩)), (3, .slice aV l5.length cV), (4, sv (preF c k i)), (5, .int .i64 (i : Int)), (21, .bool (decide (i < n)))] L') ?_ ?_
    · conv => whnf
      by_cases h1 : i < l5.length
      · have q1 : decide ((i : Int) < (l5.length : Int)) = true := decide_eq_true (by omega)
        repeat (first | (refine Br.yes q1 ?_; conv => whnf) | (first | (refine Br.yes (by first | with_reducible rfl | with_reducible exact beq_self_eq_true _ | rfl) ?_; conv => whnf) | (refine Br.no (by first | with_reducible rfl | with_reducible exact bne_self_eq_false _ | rfl) ?_; conv => whnf)))
        have : decide (i < n) = true := decide_eq_true (hm.2 (.inr (hs.1 h1)))
        rw [this]
        exact ⟨rfl, rfl, subK_ok ⟨rfl, rfl, rfl, rfl, rfl, trivial⟩⟩
      · have q1 : decide ((i : Int) < (l5.length : Int)) = false := decide_eq_false (by omega)
        repeat (first | (refine Br.no q1 ?_; conv => whnf) | (first | (refine Br.yes (by first | with_reducible rfl | with_reducible exact beq_self_eq_true _ | rfl) ?_; conv => whnf) | (refine Br.no (by first | with_reducible rfl | with_reducible exact bne_self_eq_false _ | rfl) ?_; conv => whnf)))
        refine hp.load (v := .int .i64 (k : Int)) (by repeat (first | exact Has.here | apply Has.there | (apply Has.swap; repeat (first | exact HasR.here | apply HasR.there)))) (by rfl) rfl rfl rfl ?_
        conv => whnf
        repeat (first | (refine Br.no q1 ?_; conv => whnf) | (first | (refine Br.yes (by first | with_reducible rfl | with_reducible exact beq_self_eq_true _ | rfl) ?_; conv => whnf) | (refine Br.no (by first | with_reducible rfl | with_reducible exact bne_self_eq_false _ | rfl) ?_; conv => whnf)))
        have : decide (i < n) = decide ((i : Int) ≤ (k : Int)) := decide_eq_decide.2 (by rw [hm, ← hs]; omega)
        rw [this]
        exact ⟨rfl, rfl, subK_ok ⟨rfl, rfl, rfl, rfl, rfl, trivial⟩⟩
    rintro e L' s' ⟨rfl, rfl, hs⟩
    refine Sm.weak _ hs ?_
    clear hs
    refine Sm.ofW ?_
    conv => whnf
    refine Br.mk (fun hc => ?_) (fun hc => ?_)
    · have hc : i < n := of_decide_eq_true hc
      conv => whnf
      refine Sm.seq (Sm.mono (Q := fun e L' s' => e = .normal ∧ Hp (fun _ => False) z [] [slA κ5 (.slice aV l5.length cV) 1 l5.length (natI l5), blkA p1 p1 (Dc.mk ng c (k : Int)).cells 4] s' ∧ Sub [(1, .pointer (some ⟨p1, 0, none⟩)), (3, .slice aV l5.length cV), (4, sv (preF c k (i + 1))), (5, .int .i64 (i : Int))] L') ?_ ?_)
      · refine Sm.block ?_
        refine Sm.seqC (fun e L' s'' => e = .normal ∧ s'' = s' ∧ Sub [(1, .pointer (some ⟨p1, 0, none⟩)), (3, .slice aV l5.length cV), (4, sv (if i = k ∧ 0 < i then 46 :: preF c k i else preF c k i)), (5, .int .i64 (i : Int))] L') ?_ ?_
        · conv => whnf
          refine hp.load (v := .int .i64 (k : Int)) (by repeat (first | exact Has.here | apply Has.there | (apply Has.swap; repeat (first | exact HasR.here | apply HasR.there)))) (by rfl) rfl rfl rfl ?_
          conv => whnf
          have hpl := preF_len c k i
          by_cases hik : i = k
          · have q1 : ((i : Int) == (k : Int)) = true := beq_iff_eq.2 (by omega)
            by_cases h0 : 0 < i
            · have q2 : decide ((i : Int) > 0) = true := decide_eq_true (by omega)
              rw [if_pos ⟨hik, h0⟩]
              repeat (first | (refine Br.yes q1 ?_; conv => whnf) | (refine Br.yes q2 ?_; conv => whnf) | (first | (refine Br.yes (by first | with_reducible rfl | with_reducible exact beq_self_eq_true _ | rfl) ?_; conv => whnf) | (refine Br.no (by first | with_reducible rfl | with_reducible exact bne_self_eq_false _ | rfl) ?_; conv => whnf)))
              refine Om.of _ (str_add ⟨#[46]⟩ ⟨(preF c k i).toArray⟩ (by show 1 + (preF c k i).length ≤ _; omega)) ?_
              conv => whnf
              exact ⟨rfl, rfl, subK_ok ⟨rfl, rfl, rfl, rfl, trivial⟩⟩
            · have q2 : decide ((i : Int) > 0) = false := decide_eq_false (by omega)
              rw [if_neg (by omega)]
              repeat (first | (refine Br.yes q1 ?_; conv => whnf) | (refine Br.no q2 ?_; conv => whnf) | (first | (refine Br.yes (by first | with_reducible rfl | with_reducible exact beq_self_eq_true _ | rfl) ?_; conv => whnf) | (refine Br.no (by first | with_reducible rfl | with_reducible exact bne_self_eq_false _ | rfl) ?_; conv => whnf)))
              exact ⟨rfl, rfl, subK_ok ⟨rfl, rfl, rfl, rfl, trivial⟩⟩
          · have q1 : ((i : Int) == (k : Int)) = false := beq_eq_false_iff_ne.2 (by omega)
            rw [if_neg (by omega)]
            repeat (first | (refine Br.no q1 ?_; conv => whnf) | (first | (refine Br.yes (by first | with_reducible rfl | with_reducible exact beq_self_eq_true _ | rfl) ?_; conv => whnf) | (refine Br.no (by first | with_reducible rfl | with_reducible exact bne_self_eq_false _ | rfl) ?_; conv => whnf)))
            exact ⟨rfl, rfl, subK_ok ⟨rfl, rfl, rfl, rfl, trivial⟩⟩
        rintro e L' s' ⟨rfl, rfl, hs⟩
        refine Sm.weak _ hs ?_
        clear hs
        have hpl : (if i = k ∧ 0 < i then 46 :: preF c k i else preF c k i).length ≤ 40 := by
          have := preF_len c k i
          split <;> simp <;> omega
        have hst := preF_step c k i
        generalize (if i = k ∧ 0 < i then 46 :: preF c k i else preF c k i) = T at *
        refine Sm.ofW ?_
        conv => whnf
        refine (digit_spec _ (hp.okF (slA κ5 (.slice aV l5.length cV) 1 l5.length (natI l5)) (by simp)) i).mono ?_
        rintro _ s1 ⟨h1, rfl⟩
        obtain rfl := h1.symm
        conv => whnf
        rw [hdg, u8_dig _ (Nat.mod_lt _ (by decide))]
        refine hp.one BD rfl ?_
        clear hp
        intro v4 b4 s4 hp _
        conv => whnf
        have hsb : Sb s4 (some b4) v4 [dch c i] := (hp.okF _ List.mem_cons_self : Own s4 b4 v4 1 1 [.int .u8 (((dch c i).toNat : Nat) : Int)]).sl
        obtain ⟨a4, c4, rfl⟩ := hsb.shape
        refine Om.of _ (string_sl Tryd.underlying59 Tryd.underlying9 Tryd.underlying5 hsb) ?_
        conv => whnf
        refine Om.of _ (str_add ⟨[dch c i].toArray⟩ ⟨T.toArray⟩ (by show 1 + T.length ≤ _; omega)) ?_
        conv => whnf
        rw [hst]
        exact ⟨rfl, hp.pik (by repeat (first | exact Pik.nil | exact Pik.refl _ | exact Rm.here | apply Rm.there | apply Pik.cons | apply Pik.skip)), subK_ok ⟨rfl, rfl, rfl, rfl, trivial⟩⟩
      clear hp
      rintro e L' s ⟨rfl, hp, hs⟩
      refine Sm.weak _ hs ?_
      clear hs
      refine Sm.ofW ?_
      conv => whnf
      exact ⟨i + 1, by (show n - (i + 1) < n - i); omega, subK_ok (by refine ⟨rfl, rfl, rfl, congrArg (fun x => some (Value.int .i64 x)) (show IntKind.i64.wrap ((i : Int) + 1) = ((i + 1 : Nat) : Int) by rw [wi64 (by omega) (by omega)]; omega), trivial⟩), by omega, hp⟩
    · have hc : ¬ i < n := of_decide_eq_false hc
      obtain rfl : i = n := by omega
      have hlen := preF_len c k i
      conv => whnf
      refine Sm.seqC (fun e L' s'' => e = .normal ∧ s'' = s' ∧ Sub [(4, sv ((if ng = true then [45] else []) ++ preF c k i))] L') ?_ ?_
      · conv => whnf
        refine hp.load (v := .bool ng) (by repeat (first | exact Has.here | apply Has.there | (apply Has.swap; repeat (first | exact HasR.here | apply HasR.there)))) (by rfl) rfl rfl rfl ?_
        conv => whnf
        cases ng with
        | false =>
          repeat (first | (refine Br.yes (by first | with_reducible rfl | with_reducible exact beq_self_eq_true _ | rfl) ?_; conv => whnf) | (refine Br.no (by first | with_reducible rfl | with_reducible exact bne_self_eq_false _ | rfl) ?_; conv => whnf))
          exact ⟨rfl, rfl, subK_ok ⟨rfl, trivial⟩⟩
        | true =>
          repeat (first | (refine Br.yes (by first | with_reducible rfl | with_reducible exact beq_self_eq_true _ | rfl) ?_; conv => whnf) | (refine Br.no (by first | with_reducible rfl | with_reducible exact bne_self_eq_false _ | rfl) ?_; conv => whnf))
          refine Om.of _ (str_add ⟨#[45]⟩ ⟨(preF c k i).toArray⟩ (by show 1 + (preF c k i).length ≤ _; omega)) ?_
          conv => whnf
          exact ⟨rfl, rfl, subK_ok ⟨rfl, trivial⟩⟩
      rintro e L' s' ⟨rfl, rfl, hs⟩
      refine Sm.weak _ hs ?_
      clear hs
      refine Sm.seqW ?_
      conv => whnf
      refine Sm.live [2] ?_
      conv => whnf
      refine Sm.ofW ?_
      conv => whnf
      exact ⟨hp.fr, rfl⟩
end Go.Ev
end

/- pyxlaw2.text. No condition. -/
noncomputable section
namespace Go.Ev
open Go.Proofs
set_option linter.unusedVariables false
set_option maxRecDepth 100000

def pieceV : Value := .agg #[sv [45], sv [46], sv [32], sv [48], sv [97], sv [57, 57, 57, 57, 57, 57, 57, 57, 57, 57, 57, 57, 57, 57, 57, 57, 57, 57, 57, 57]]
theorem piece_at {i : Nat} (h : i < 6) : ∃ l : List UInt8, l.length ≤ 20 ∧ evIndex Tryd.prog 82 pieceV (.int .i64 (i : Int)) = some (sv l) := by
  match i, h with
  | 0, _ => exact ⟨_, by decide, rfl⟩
  | 1, _ => exact ⟨_, by decide, rfl⟩
  | 2, _ => exact ⟨_, by decide, rfl⟩
  | 3, _ => exact ⟨_, by decide, rfl⟩
  | 4, _ => exact ⟨_, by decide, rfl⟩
  | 5, _ => exact ⟨_, by decide, rfl⟩
theorem text_spec {z : St} (wf : WF z) {n scale bend : Int} (hn : inR n) (hs : inR scale) (hb : inR bend) (raw : List UInt8) :
    Cw Tryd.prog 29 [.int .i64 n, .int .i64 scale, .int .i64 bend, sv raw] z fun r s' => K0 z s' ∧ ∃ l : List UInt8, l.length ≤ max 60 raw.length ∧ r = sv l := by
  have hp : Hp (fun _ => False) z [] [] z := Hp.start _ wf _ (by simp)
  refine Cw.enterS Tryd.func29 rfl rfl ?_
  refine Sm.seqW ?_
  conv => whnf
  refine Sm.live [0, 1, 2, 3] ?_
  conv => whnf
  refine Sm.seqW ?_
  conv => whnf
  refine hp.call (hdec_spec hp.wf hn hs hb) ?_
  clear hp
  rintro _ s ⟨d, hd, hds, rfl⟩ hp _
  conv => whnf
  refine hp.call (rprint_spec hp.wf d hd) ?_
  clear hp
  rintro _ s rfl hp _
  conv => whnf
  have hl : (printF d).length ≤ 32 := by
    by_cases hr : d.right = true
    · exact print_len hr
    · rw [show printF d = [] from if_pos (by simpa using hr)]; decide
  generalize printF d = A at *
  refine Sm.live [0, 2, 3, 9] ?_
  conv => whnf
  refine Sm.seqC (fun e L' s' => e = .normal ∧ s' = s ∧ ∃ l : List UInt8, l.length ≤ max 60 raw.length ∧ Sub [(9, sv l)] L') ?_ ?_
  · conv => whnf
    obtain ⟨q1, q2⟩ := quo_int (P := Tryd.prog) (t := 3) (cst := true) (m := 11) (by decide) hb
    refine Om.of _ ((quo_int (P := Tryd.prog) (m := 11) (by decide) hb).1) ?_
    conv => whnf
    refine (pick_spec _ q2 (m := 6) (by decide) (by decide)).mono ?_
    rintro _ s1 ⟨h1, rfl⟩
    obtain rfl := h1.symm
    conv => whnf
    clear q1 q2
    generalize bend.tdiv 11 % 6 = P
    refine Br.mk (fun hc => ?_) (fun hc => ?_) <;> conv => whnf
    · refine Om.of _ (str_add ⟨#[48, 48]⟩ ⟨A.toArray⟩ (by show 2 + A.length ≤ _; omega)) ?_
      conv => whnf
      exact ⟨rfl, rfl, [48, 48] ++ A, by simp; omega, subK_ok ⟨rfl, trivial⟩⟩
    · refine Br.mk (fun hc => ?_) (fun hc => ?_) <;> conv => whnf
      · have ew : IntKind.i64.wrap (((bs ⟨A.toArray⟩).length : Int) + 1) = (A.length : Int) + 1 := wi64 (n := (A.length : Int) + 1) (by omega) (by omega)
        rw [ew]
        refine (pick_spec _ hn (m := (A.length : Int) + 1) (by omega) (by omega)).mono ?_
        rintro _ s1 ⟨h1, rfl⟩
        obtain rfl := h1.symm
        conv => whnf
        have k1 := Int.emod_nonneg n (show (A.length : Int) + 1 ≠ 0 by omega)
        have k2 := Int.emod_lt_of_pos n (show (0 : Int) < (A.length : Int) + 1 by omega)
        generalize n % ((A.length : Int) + 1) = K at *
        obtain ⟨k, rfl⟩ : ∃ k : Nat, K = k := ⟨K.toNat, by omega⟩
        refine ⟨[0, 0, 3, 0, 0, 16, 48, 120, 255, 0, 0, 1536, 4095, 8191], by decide +kernel, by decide +kernel, ?_⟩
        conv => whnf
        refine Om.of _ (str_take Tryd.underlying9 (l := A) .i64 (j := k) (by omega)) ?_
        conv => whnf
        obtain ⟨r1, r2⟩ := quo_int (P := Tryd.prog) (t := 3) (cst := true) (m := 66) (by decide) hb
        refine Om.of _ ((quo_int (P := Tryd.prog) (m := 66) (by decide) hb).1) ?_
        conv => whnf
        refine (pick_spec _ r2 (m := 6) (by decide) (by decide)).mono ?_
        rintro _ s1 ⟨h1, rfl⟩
        obtain rfl := h1.symm
        conv => whnf
        refine hp.dkS ?_
        conv => whnf
        have j1 := Int.emod_nonneg (bend.tdiv 66) (show (6 : Int) ≠ 0 by decide)
        have j2 := Int.emod_lt_of_pos (bend.tdiv 66) (show (0 : Int) < 6 by decide)
        clear r1 r2
        generalize bend.tdiv 66 % 6 = J at *
        obtain ⟨j, rfl⟩ : ∃ j : Nat, J = j := ⟨J.toNat, by omega⟩
        obtain ⟨B, hB, hix⟩ := piece_at (i := j) (by omega)
        refine Om.of _ (hix) ?_
        conv => whnf
        refine Om.of _ (str_add ⟨(A.take k).toArray⟩ ⟨B.toArray⟩ (by show (A.take k).length + B.length ≤ _; simp; omega)) ?_
        conv => whnf
        refine Om.of _ (str_drop Tryd.underlying9 (l := A) .i64 (j := k) (by omega)) ?_
        conv => whnf
        refine Om.of _ (str_add ⟨(A.take k ++ B).toArray⟩ ⟨(A.drop k).toArray⟩ (by show (A.take k ++ B).length + (A.drop k).length ≤ _; simp; omega)) ?_
        conv => whnf
        exact ⟨rfl, rfl, (A.take k ++ B) ++ A.drop k, by simp; omega, subK_ok ⟨rfl, trivial⟩⟩
      · refine Br.mk (fun hc => ?_) (fun hc => ?_) <;> conv => whnf
        · exact ⟨rfl, rfl, raw, by omega, subK_ok ⟨rfl, trivial⟩⟩
        · exact ⟨rfl, rfl, A, by omega, subK_ok ⟨rfl, trivial⟩⟩
  rintro e L' s' ⟨rfl, rfl, l, hl2, hs⟩
  refine Sm.weak _ hs ?_
  clear hs
  refine Sm.seqW ?_
  conv => whnf
  refine Sm.ofW ?_
  conv => whnf
  exact ⟨hp.fr, l, hl2, rfl⟩
end Go.Ev
end

/- The document's Read, without a program. No condition. -/
noncomputable section
namespace Go.Ev
open Go.Proofs
set_option linter.unusedVariables false
set_option maxRecDepth 100000

/-- What is read of a body. -/
def readB (ng : Bool) (b : List UInt8) : Value :=
  if readOk b = false then errD 2 else if 10 ^ 30 ≤ valD (wholeF b ++ restF b) then errD 3
  else if (ng && decide (valD (wholeF b ++ restF b) = 0)) = true then errD 2 else okD ⟨ng, valD (wholeF b ++ restF b), (restF b).length⟩
theorem readF_B (l : List UInt8) : readF l = readB (hasP l [45]) (bodyF l) := rfl
theorem idxL_shift {c : Nat} : ∀ (T : List UInt8) (n : Nat), idxL c T n = (idxL c T 0).map (· + n)
  | [], n => rfl
  | x :: T, n => by
    show (match Nat.beq x.toNat c with | true => some n | false => idxL c T (n + 1)) = (match Nat.beq x.toNat c with | true => some 0 | false => idxL c T (0 + 1)).map (· + n)
    cases Nat.beq x.toNat c with
    | true => simp
    | false =>
      show idxL c T (n + 1) = (idxL c T (0 + 1)).map (· + n)
      rw [idxL_shift T (n + 1), idxL_shift T (0 + 1)]
      cases idxL c T 0 with
      | none => rfl
      | some k => simp; omega
theorem idx_pre {W T : List UInt8} (h : ∀ x ∈ W, x.toNat ≠ 46) : idxL 46 (W ++ T) 0 = (idxL 46 T 0).map (· + W.length) := by
  rw [idxL_skip W T 0 h, Nat.zero_add, idxL_shift]
theorem whole_pre {W T : List UInt8} (h : ∀ x ∈ W, x.toNat ≠ 46) : wholeF (W ++ T) = W ++ wholeF T := by
  unfold wholeF
  rw [idx_pre h]
  cases idxL 46 T 0 with
  | none => rfl
  | some k =>
    show (W ++ T).take (k + W.length) = W ++ T.take k
    rw [List.take_append, List.take_of_length_le (by omega), show k + W.length - W.length = k by omega]
theorem rest_pre {W T : List UInt8} (h : ∀ x ∈ W, x.toNat ≠ 46) : restF (W ++ T) = restF T := by
  unfold restF
  rw [idx_pre h]
  cases idxL 46 T 0 with
  | none => rfl
  | some k =>
    show (W ++ T).drop (k + W.length + 1) = T.drop (k + 1)
    rw [List.drop_append, List.drop_eq_nil_of_le (by omega), List.nil_append]
    congr 1; omega
theorem point_pre {W T : List UInt8} (h : ∀ x ∈ W, x.toNat ≠ 46) : pointF (W ++ T) = pointF T := by
  unfold pointF
  rw [idx_pre h]
  cases idxL 46 T 0 <;> rfl
theorem isD_ne {W : List UInt8} (h : ∀ x ∈ W, isD x = true) : ∀ x ∈ W, x.toNat ≠ 46 := fun x hx => by have := isD_iff.1 (h x hx); omega
theorem runF_no {l : List UInt8} {m : Nat} (h : l = [] ∨ m < l.length ∨ ∃ x ∈ l, isD x = false) : runF l m = false := by
  cases hr : runF l m with
  | false => rfl
  | true =>
    obtain ⟨h1, h2, h3⟩ := runF_ok hr
    rcases h with h | h | ⟨x, hx, h⟩
    · exact absurd h h1
    · omega
    · rw [h3 x hx] at h; cases h
theorem bad_whole {W rest : List UInt8} {x : UInt8} (hW : ∀ y ∈ W, isD y = true) (hx : x.toNat ≠ 46) (h : 30 ≤ W.length ∨ isD x = false) : readOk (W ++ x :: rest) = false := by
  unfold readOk
  have e : W ++ x :: rest = (W ++ [x]) ++ rest := by simp
  have hne : ∀ y ∈ W ++ [x], y.toNat ≠ 46 := fun y hy => by
    rcases List.mem_append.1 hy with g | g
    · exact isD_ne hW y g
    · rw [List.mem_singleton] at g; rw [g]; exact hx
  rw [e, whole_pre hne, runF_no]
  · rfl
  · refine .inr ?_
    rcases h with h | h
    · exact .inl (by simp; omega)
    · exact .inr ⟨x, by simp, h⟩
theorem dot_whole (r : List UInt8) : wholeF (46 :: r) = [] := rfl
theorem dot_rest (r : List UInt8) : restF (46 :: r) = r := rfl
theorem dot_point (r : List UInt8) : pointF (46 :: r) = true := rfl
theorem bad_dot (r : List UInt8) : readOk (46 :: r) = false := by
  unfold readOk
  rw [dot_whole, runF_no (.inl rfl)]; rfl
theorem bad_rest {W R rest : List UInt8} {x : UInt8} (hW : ∀ y ∈ W, isD y = true) (h : 9 ≤ R.length ∨ isD x = false) : readOk (W ++ 46 :: (R ++ x :: rest)) = false := by
  unfold readOk
  rw [whole_pre (isD_ne hW), rest_pre (isD_ne hW), point_pre (isD_ne hW), dot_rest, dot_point, runF_no (l := R ++ x :: rest)]
  · simp
  · refine .inr ?_
    rcases h with h | h
    · exact .inl (by simp; omega)
    · exact .inr ⟨x, by simp, h⟩
/-- The digits, the lowest first. -/
def nL (l : List UInt8) : List Nat := (l.map fun x => x.toNat - 48).reverse
theorem nL_len (l : List UInt8) : (nL l).length = l.length := by simp [nL]
theorem nL_snoc (l : List UInt8) (x : UInt8) : nL (l ++ [x]) = (x.toNat - 48) :: nL l := by simp [nL]
theorem Vd_nL' : ∀ m : List UInt8, Vd (m.map fun x => x.toNat - 48) = valD m.reverse
  | [] => rfl
  | x :: m => by
    rw [List.reverse_cons, valD_snoc, ← Vd_nL' m]
    show (x.toNat - 48) + 10 * Vd (m.map fun x => x.toNat - 48) = _
    omega
theorem Vd_nL (l : List UInt8) : Vd (nL l) = valD l := by
  unfold nL
  rw [← List.map_reverse, Vd_nL', List.reverse_reverse]
theorem nL_lt {l : List UInt8} (h : ∀ x ∈ l, isD x = true) : ∀ d ∈ nL l, d < 10 := by
  intro d hd
  unfold nL at hd
  rw [List.mem_reverse] at hd
  obtain ⟨x, hx, rfl⟩ := List.mem_map.1 hd
  have := isD_iff.1 (h x hx)
  omega
/-- What stands when some of a body is read. -/
structure RdI (b : List UInt8) (i : Nat) (W R : List UInt8) (pt : Bool) : Prop where
  at_ : b.take i = W ++ (if pt = true then [46] ++ R else [])
  le : i ≤ b.length
  w30 : W.length ≤ 30
  r9 : R.length ≤ 9
  dW : ∀ x ∈ W, isD x = true
  dR : ∀ x ∈ R, isD x = true
  off : pt = false → R = []
  on : pt = true → W ≠ []
theorem RdI.split {b W R : List UInt8} {i : Nat} {pt : Bool} (h : RdI b i W R pt) (hi : i < b.length) : b = W ++ ((if pt = true then [46] ++ R else []) ++ b[i] :: b.drop (i + 1)) := by
  have := (List.take_append_drop i b).symm
  rw [h.at_, List.drop_eq_getElem_cons hi] at this
  rw [List.append_assoc] at this
  exact this
/-- A figure more. -/
theorem RdI.fig {b W R : List UInt8} {i : Nat} (h : RdI b i W R false) (hi : i < b.length) (hx : isD b[i] = true) : (30 ≤ W.length → readOk b = false) ∧ (W.length < 30 → RdI b (i + 1) (W ++ [b[i]]) [] false) := by
  have hs := h.split hi
  have hx' := isD_iff.1 hx
  refine ⟨fun g => ?_, fun g => ⟨?_, by omega, by simp; omega, by simp, ?_, by simp, fun _ => rfl, fun h => nomatch h⟩⟩
  · rw [hs]
    exact bad_whole h.dW (by omega) (.inl g)
  · rw [List.take_succ_eq_append_getElem hi, h.at_]; simp
  · intro y hy
    rcases List.mem_append.1 hy with q | q
    · exact h.dW y q
    · rw [List.mem_singleton] at q; rw [q]; exact hx
theorem RdI.figR {b W R : List UInt8} {i : Nat} (h : RdI b i W R true) (hi : i < b.length) (hx : isD b[i] = true) : (9 ≤ R.length → readOk b = false) ∧ (R.length < 9 → RdI b (i + 1) W (R ++ [b[i]]) true) := by
  have hs := h.split hi
  refine ⟨fun g => ?_, fun g => ⟨?_, by omega, h.w30, by simp; omega, h.dW, ?_, (fun h => nomatch h), fun _ => h.on rfl⟩⟩
  · rw [hs]
    exact bad_rest h.dW (.inl g)
  · rw [List.take_succ_eq_append_getElem hi, h.at_]; simp
  · intro y hy
    rcases List.mem_append.1 hy with q | q
    · exact h.dR y q
    · rw [List.mem_singleton] at q; rw [q]; exact hx
theorem RdI.dot {b W R : List UInt8} {i : Nat} (h : RdI b i W R false) (hi : i < b.length) (hx : b[i] = 46) : (W = [] → readOk b = false) ∧ (W ≠ [] → RdI b (i + 1) W [] true) := by
  have hs := h.split hi
  rw [hx] at hs
  refine ⟨fun g => ?_, fun g => ⟨?_, by omega, h.w30, by simp, h.dW, by simp, (fun h => nomatch h), fun _ => g⟩⟩
  · rw [hs, g]; exact bad_dot _
  · rw [List.take_succ_eq_append_getElem hi, h.at_, hx]; simp
theorem RdI.bad {b W R : List UInt8} {i : Nat} {pt : Bool} (h : RdI b i W R pt) (hi : i < b.length) (hx : isD b[i] = false) (hp : pt = true ∨ b[i] ≠ 46) : readOk b = false := by
  have hs := h.split hi
  rw [hs]
  cases pt with
  | true => exact bad_rest h.dW (.inr hx)
  | false =>
    refine bad_whole h.dW (fun e => ?_) (.inr hx)
    rcases hp with g | g
    · cases g
    · exact g (UInt8.toNat_inj.1 e)
/-- At the end. -/
theorem RdI.fin {b W R : List UInt8} {pt : Bool} (h : RdI b b.length W R pt) (ng : Bool) :
    readB ng b = if W = [] ∨ (pt = true ∧ R = []) ∨ (ng = true ∧ valD (W ++ R) = 0) then errD 2 else dmade ng (valD (W ++ R)) (R.length : Int) := by
  have hb : b = W ++ (if pt = true then [46] ++ R else []) := by have := h.at_; rwa [List.take_length] at this
  have bad : readOk b = false → readB ng b = errD 2 := fun g => if_pos g
  by_cases h1 : W = []
  · rw [if_pos (.inl h1)]
    have hpt : pt = false := by
      cases hp : pt with
      | false => rfl
      | true => exact absurd h1 (h.on hp)
    refine bad ?_
    rw [hb, h1, hpt]; rfl
  by_cases h2 : pt = true ∧ R = []
  · rw [if_pos (.inr (.inl h2))]
    refine bad ?_
    rw [hb, h2.1, if_pos rfl]
    unfold readOk
    show (runF (wholeF (W ++ 46 :: R)) 30 && (!pointF (W ++ 46 :: R) || runF (restF (W ++ 46 :: R)) 9)) = false
    rw [rest_pre (isD_ne h.dW), point_pre (isD_ne h.dW), dot_rest, dot_point, h2.2, runF_no (.inl rfl)]; simp
  have hr := read_txt (ng := ng) (pt := pt) h1 h.dW h.dR h.off (fun hp => ⟨fun e => h2 ⟨hp, e⟩, h.r9⟩)
  rw [readF_B, txt_hasP h1 h.dW, txt_body h1 h.dW, ← hb, if_neg (by have := h.w30; omega)] at hr
  rw [hr]
  by_cases h3 : ng = true ∧ valD (W ++ R) = 0
  · have q : W = [] ∨ (pt = true ∧ R = []) ∨ (ng = true ∧ valD (W ++ R) = 0) := .inr (.inr h3)
    rw [if_pos q, h3.1, h3.2, if_neg (by decide), if_pos (by decide)]
  · have q : ¬ (W = [] ∨ (pt = true ∧ R = []) ∨ (ng = true ∧ valD (W ++ R) = 0)) := by
      rintro (g | g | g)
      · exact h1 g
      · exact h2 g
      · exact h3 g
    rw [if_neg q]
    have hnz : (ng && decide (valD (W ++ R) = 0)) = false := by
      cases ng <;> simp at h3 ⊢; exact h3
    unfold dmade
    by_cases h4 : 10 ^ 30 ≤ valD (W ++ R)
    · rw [if_pos h4, if_neg (by omega)]
    · rw [if_neg h4, if_neg (by rw [hnz]; decide), if_pos (by omega)]
      have : (ng && !decide (valD (W ++ R) = 0)) = ng := by cases ng <;> simp at h3 ⊢; exact h3
      rw [this]
end Go.Ev
end

/- The document's Read walked. No condition. -/
noncomputable section
namespace Go.Ev
open Go.Proofs
set_option linter.unusedVariables false
set_option maxRecDepth 100000

theorem hasP_cons (x : UInt8) (l : List UInt8) : hasP (x :: l) [45] = (((x.toNat : Nat) : Int) == 45) := by
  show (true && ([x] == [45])) = _
  rw [Bool.true_and, Bool.eq_iff_iff, beq_iff_eq, beq_iff_eq]
  constructor
  · intro h; injection h with h; rw [h]; rfl
  · intro h
    have : x = 45 := UInt8.toNat_inj.1 (by show x.toNat = 45; omega)
    rw [this]
theorem u8_fig {x : UInt8} (h : isD x = true) : IntKind.i64.wrap (IntKind.u8.wrap (((x.toNat : Nat) : Int) - 48)) = ((x.toNat - 48 : Nat) : Int) := by
  have := isD_iff.1 h
  rw [wrap_u8i, wi64 (by omega) (by omega)]; omega
theorem rread_spec {z : St} (wf : WF z) (l : List UInt8) (hl : l.length < 4611686018427387904) : Cw Tryd.prog 30 [sv l] z fun r s' => K0 z s' ∧ r = readF l := by
  have hp : Hp (fun _ => False) z [] [] z := Hp.start _ wf _ (by simp)
  refine Cw.enterS Tryd.func30 rfl rfl ?_
  refine Sm.seqW ?_
  conv => whnf
  refine hp.alloc (cs := Dc.zero.cells) (e := 4) rfl rfl rfl rfl rfl ?_
  clear hp
  intro p2 s hp _
  conv => whnf
  refine Sm.live [0, 2] ?_
  conv => whnf
  refine Sm.seqC (fun e L' s' => e = .normal ∧ s' = s ∧ Sub [(0, sv l), (2, .pointer (some ⟨p2, 0, none⟩)), (4, .bool (hasP l [45]))] L') ?_ ?_
  · conv => whnf
    cases l with
    | nil =>
      repeat (first | (refine Br.yes (by first | with_reducible rfl | with_reducible exact beq_self_eq_true _ | rfl) ?_; conv => whnf) | (refine Br.no (by first | with_reducible rfl | with_reducible exact bne_self_eq_false _ | rfl) ?_; conv => whnf))
      exact ⟨rfl, rfl, subK_ok ⟨rfl, rfl, rfl, trivial⟩⟩
    | cons x l =>
      have q : decide ((((bs ⟨(x :: l).toArray⟩).length : Nat) : Int) > 0) = true := decide_eq_true (by show (((x :: l).length : Nat) : Int) > 0; simp)
      repeat (first | (refine Br.yes q ?_; conv => whnf) | (first | (refine Br.yes (by first | with_reducible rfl | with_reducible exact beq_self_eq_true _ | rfl) ?_; conv => whnf) | (refine Br.no (by first | with_reducible rfl | with_reducible exact bne_self_eq_false _ | rfl) ?_; conv => whnf)))
      refine Om.of _ (str_index Tryd.underlying9 (l := x :: l) (i := 0) (by simp) .i64) ?_
      conv => whnf
      repeat (first | (refine Br.yes q ?_; conv => whnf) | (first | (refine Br.yes (by first | with_reducible rfl | with_reducible exact beq_self_eq_true _ | rfl) ?_; conv => whnf) | (refine Br.no (by first | with_reducible rfl | with_reducible exact bne_self_eq_false _ | rfl) ?_; conv => whnf)))
      exact ⟨rfl, rfl, subK_ok ⟨rfl, rfl, congrArg (fun x => some (Value.bool x)) (hasP_cons x l).symm, trivial⟩⟩
  rintro e L' s' ⟨rfl, rfl, hs⟩
  refine Sm.weak _ hs ?_
  clear hs
  refine Sm.seqC (fun e L' s'' => e = .normal ∧ s'' = s' ∧ Sub [(0, sv (bodyF l)), (2, .pointer (some ⟨p2, 0, none⟩)), (4, .bool (hasP l [45]))] L') ?_ ?_
  · conv => whnf
    cases hng : hasP l [45] with
    | false =>
      repeat (first | (refine Br.yes (by first | with_reducible rfl | with_reducible exact beq_self_eq_true _ | rfl) ?_; conv => whnf) | (refine Br.no (by first | with_reducible rfl | with_reducible exact bne_self_eq_false _ | rfl) ?_; conv => whnf))
      exact ⟨rfl, rfl, subK_ok ⟨congrArg (fun x => some (sv x)) (show l = bodyF l from (if_neg (by rw [hng]; decide)).symm), rfl, rfl, trivial⟩⟩
    | true =>
      repeat (first | (refine Br.yes (by first | with_reducible rfl | with_reducible exact beq_self_eq_true _ | rfl) ?_; conv => whnf) | (refine Br.no (by first | with_reducible rfl | with_reducible exact bne_self_eq_false _ | rfl) ?_; conv => whnf))
      have h1 : 1 ≤ l.length := by
        cases l with
        | nil => cases hng
        | cons x l => simp
      refine Om.of _ (str_drop Tryd.underlying9 .i64 (l := l) (j := 1) h1) ?_
      conv => whnf
      exact ⟨rfl, rfl, subK_ok ⟨congrArg (fun x => some (sv x)) (show l.drop 1 = bodyF l from (if_pos hng).symm), rfl, rfl, trivial⟩⟩
  rintro e L' s' ⟨rfl, rfl, hs⟩
  refine Sm.weak _ hs ?_
  clear hs
  rw [readF_B]
  have hb := body_len l
  generalize hasP l [45] = ng at *
  obtain ⟨b, hbe⟩ : ∃ b, b = bodyF l := ⟨_, rfl⟩
  rw [← hbe] at hb ⊢
  have hbl : b.length < 4611686018427387904 := by omega
  refine Sm.seqW ?_
  conv => whnf
  refine Sm.live [0, 2, 4, 5] ?_
  conv => whnf
  refine Sm.seqW ?_
  conv => whnf
  refine Sm.live [0, 2, 4, 5, 6] ?_
  conv => whnf
  refine Sm.seqW ?_
  conv => whnf
  refine Sm.live [0, 2, 4, 5, 6, 7] ?_
  conv => whnf
  refine Sm.seqW ?_
  conv => whnf
  refine Sm.live [0, 2, 4, 5, 6, 7, 8] ?_
  conv => whnf
  refine Sm.seq ?_
  refine Sm.seqW ?_
  conv => whnf
  refine Sm.live [0, 2, 4, 5, 6, 7, 8, 9] ?_
  conv => whnf
  refine Sm.block ?_
  refine Sm.loop ?_
  refine Lp.ofS (α := Nat × List UInt8 × List UInt8 × Bool × Option Nat × Value) (fun x => [(0, sv b), (2, .pointer (some ⟨p2, 0, none⟩)), (4, .bool ng), (5, x.2.2.2.2.2), (6, .int .i64 ((x.2.1.length : Nat) : Int)), (7, .int .i64 ((x.2.2.1.length : Nat) : Int)), (8, .bool x.2.2.2.1), (9, .int .i64 (x.1 : Int))])
    (fun x s' => RdI b x.1 x.2.1 x.2.2.1 x.2.2.2.1 ∧ Hp (fun _ => False) z [] [slA x.2.2.2.2.1 x.2.2.2.2.2 1 (nL (x.2.1 ++ x.2.2.1)).length (natI (nL (x.2.1 ++ x.2.2.1))), blkA p2 p2 Dc.zero.cells 4] s')
    (fun x => b.length - x.1) ?_ (0, [], [], false, none, .slice none 0 0) (subK_ok (by refine ⟨rfl, rfl, rfl, rfl, rfl, rfl, rfl, rfl, trivial⟩))
    ⟨⟨by simp, by omega, by simp, by simp, by simp, by simp, fun _ => rfl, fun h => nomatch h⟩, ((hp.nilA 1).toSl (by repeat (first | exact Rm.here | apply Rm.there)) (Sl.nil _ _)).pik (by repeat (first | exact Pik.nil | exact Pik.refl _ | exact Rm.here | apply Rm.there | apply Pik.cons | apply Pik.skip))⟩
  clear hp
  rintro ⟨i, W, R, pt, κ, v⟩ s ⟨ok, hp⟩
  simp only at ok hp
  have hle := ok.le
  have hw30 := ok.w30
  have hr9 := ok.r9
  refine Sm.seq ?_
  refine Sm.seqW ?_
  conv => whnf
  refine Sm.live [0, 2, 4, 5, 6, 7, 8, 9, 24] ?_
  conv => whnf
  refine Sm.ofW ?_
  conv => whnf
  refine Br.mk (fun hc => ?_) (fun hc => ?_)
  · have hcI : i < b.length := by have h : (i : Int) < (b.length : Int) := of_decide_eq_true hc; omega
    conv => whnf
    refine Sm.seq ?_
    refine Sm.block ?_
    refine Sm.block ?_
    refine Sm.seqC (fun e L' s' => e = .normal ∧ s' = s ∧ Sub [(0, sv b), (2, .pointer (some ⟨p2, 0, none⟩)), (4, .bool ng), (5, v), (6, .int .i64 ((W.length : Nat) : Int)), (7, .int .i64 ((R.length : Nat) : Int)), (8, .bool pt), (9, .int .i64 (i : Int)), (28, .bool (isD b[i]))] L') ?_ ?_
    · conv => whnf
      refine Om.of _ (str_index Tryd.underlying9 (l := b) (i := i) hcI .i64) ?_
      conv => whnf
      by_cases g : 48 ≤ b[i].toNat
      · have q : decide (((b[i].toNat : Nat) : Int) ≥ 48) = true := decide_eq_true (by omega)
        repeat (first | (refine Br.yes q ?_; conv => whnf) | (first | (refine Br.yes (by first | with_reducible rfl | with_reducible exact beq_self_eq_true _ | rfl) ?_; conv => whnf) | (refine Br.no (by first | with_reducible rfl | with_reducible exact bne_self_eq_false _ | rfl) ?_; conv => whnf)))
        refine Om.of _ (str_index Tryd.underlying9 (l := b) (i := i) hcI .i64) ?_
        conv => whnf
        repeat (first | (refine Br.yes q ?_; conv => whnf) | (first | (refine Br.yes (by first | with_reducible rfl | with_reducible exact beq_self_eq_true _ | rfl) ?_; conv => whnf) | (refine Br.no (by first | with_reducible rfl | with_reducible exact bne_self_eq_false _ | rfl) ?_; conv => whnf)))
        exact ⟨rfl, rfl, subK_ok ⟨rfl, rfl, rfl, rfl, rfl, rfl, rfl, rfl, congrArg (fun x => some (Value.bool x)) (show _ = decide _ from decide_eq_decide.2 (by omega)), trivial⟩⟩
      · have q : decide (((b[i].toNat : Nat) : Int) ≥ 48) = false := decide_eq_false (by omega)
        repeat (first | (refine Br.no q ?_; conv => whnf) | (first | (refine Br.yes (by first | with_reducible rfl | with_reducible exact beq_self_eq_true _ | rfl) ?_; conv => whnf) | (refine Br.no (by first | with_reducible rfl | with_reducible exact bne_self_eq_false _ | rfl) ?_; conv => whnf)))
        have hd : isD b[i] = false := decide_eq_false (by omega)
        rw [hd]
        exact ⟨rfl, rfl, subK_ok ⟨rfl, rfl, rfl, rfl, rfl, rfl, rfl, rfl, rfl, trivial⟩⟩
    rintro e L' s' ⟨rfl, rfl, hs⟩
    refine Sm.weak _ hs ?_
    clear hs
    refine Sm.ofW ?_
    conv => whnf
    have ei : IntKind.i64.wrap ((i : Int) + 1) = ((i + 1 : Nat) : Int) := by rw [wi64 (by omega) (by omega)]; omega
    obtain ⟨aR, cR, rfl⟩ := Sl.shape (show Sl s' κ v 1 (nL (W ++ R)).length (natI (nL (W ++ R))) from hp.okF (slA κ v 1 (nL (W ++ R)).length (natI (nL (W ++ R)))) (by simp))
    cases hd : isD b[i] with
    | true =>
      repeat (first | (refine Br.yes (by first | with_reducible rfl | with_reducible exact beq_self_eq_true _ | rfl) ?_; conv => whnf) | (refine Br.no (by first | with_reducible rfl | with_reducible exact bne_self_eq_false _ | rfl) ?_; conv => whnf))
      refine Om.of _ (str_index Tryd.underlying9 (l := b) (i := i) hcI .i64) ?_
      conv => whnf
      rw [u8_fig hd]
      have hnl : (nL (W ++ R)).length ≤ 39 := by rw [nL_len, List.length_append]; omega
      refine hp.one ID rfl ?_
      clear hp
      intro v4 b4 s4 hp _
      conv => whnf
      have x4 : Sl s4 κ (.slice aR (nL (W ++ R)).length cR) 1 (nL (W ++ R)).length (natI (nL (W ++ R))) := hp.okF (slA κ (.slice aR (nL (W ++ R)).length cR) 1 (nL (W ++ R)).length (natI (nL (W ++ R)))) (by simp)
      obtain ⟨a4, c4, rfl⟩ := (hp.okF _ List.mem_cons_self : Own s4 b4 v4 1 1 _).sl.shape
      refine (hp.toOn (k := b4) (by repeat (first | exact Rm.here | apply Rm.there))).app ID Tryd.underlying74 rfl (κ := some b4) (v := .slice a4 1 c4) (by repeat (first | exact Rm.here | apply Rm.there)) (elems_sl x4) (by rw [natI_len]; omega) (by simp [natI]; intros; rfl) (by omega) ?_
      clear hp x4
      intro v5 κ5 s5 hp
      have hnv : [Value.int .i64 ((b[i].toNat - 48 : Nat) : Int)] ++ natI (nL (W ++ R)) = natI ((b[i].toNat - 48) :: nL (W ++ R)) := by simp [natI]
      have hln : 1 + (nL (W ++ R)).length = ((b[i].toNat - 48) :: nL (W ++ R)).length := by simp; omega
      rw [hnv, hln, ← nL_snoc] at hp
      replace hp := hp.toSl (by repeat (first | exact Rm.here | apply Rm.there)) (hp.slF (κ := κ5) (v := v5) (by repeat (first | exact Rm.here | apply Rm.there)))
      conv => whnf
      cases pt with
      | false =>
        obtain rfl := ok.off rfl
        obtain ⟨f1, f2⟩ := ok.fig hcI hd
        have eh : IntKind.i64.wrap ((W.length : Int) + 1) = (((W ++ [b[i]]).length : Nat) : Int) := by rw [wi64 (by omega) (by omega)]; simp
        repeat (first | (refine Br.yes (by first | with_reducible rfl | with_reducible exact beq_self_eq_true _ | rfl) ?_; conv => whnf) | (refine Br.no (by first | with_reducible rfl | with_reducible exact bne_self_eq_false _ | rfl) ?_; conv => whnf))
        by_cases h30 : 30 ≤ W.length
        · have q : decide (IntKind.i64.wrap ((W.length : Int) + 1) > 30) = true := decide_eq_true (by rw [wi64 (by omega) (by omega)]; omega)
          repeat (first | (refine Br.yes q ?_; conv => whnf) | (first | (refine Br.yes (by first | with_reducible rfl | with_reducible exact beq_self_eq_true _ | rfl) ?_; conv => whnf) | (refine Br.no (by first | with_reducible rfl | with_reducible exact bne_self_eq_false _ | rfl) ?_; conv => whnf)))
          refine hp.storeW (vs := Dc.zero.cells) rfl (by repeat (first | exact Rm.here | apply Rm.there)) (by first | exact C2_same _ _ _ _ | exact C4_same _ _ _ _ _ _ _ _ | exact Dc_same _ _ | rfl) rfl rfl rfl ?_
          clear hp
          intro s hp _
          conv => whnf
          refine hp.loadA (l := Dc.zero.cells) (by repeat (first | exact Has.here | apply Has.there | (apply Has.swap; repeat (first | exact HasR.here | apply HasR.there)))) rfl (by rfl) rfl rfl ?_
          conv => whnf
          exact ⟨hp.fr, by rw [show readB ng b = errD 2 from if_pos (f1 h30)]; rfl⟩
        · have q : decide (IntKind.i64.wrap ((W.length : Int) + 1) > 30) = false := decide_eq_false (by rw [wi64 (by omega) (by omega)]; omega)
          repeat (first | (refine Br.no q ?_; conv => whnf) | (first | (refine Br.yes (by first | with_reducible rfl | with_reducible exact beq_self_eq_true _ | rfl) ?_; conv => whnf) | (refine Br.no (by first | with_reducible rfl | with_reducible exact bne_self_eq_false _ | rfl) ?_; conv => whnf)))
          rw [List.append_nil] at hp
          refine Sm.ofW ?_
          conv => whnf
          exact ⟨(i + 1, W ++ [b[i]], [], false, κ5, v5), by (show b.length - (i + 1) < b.length - i); omega, subK_ok (by refine ⟨rfl, rfl, rfl, rfl, ?_, ?_, rfl, ?_, trivial⟩ <;> first | rfl | (refine congrArg (fun x => some (Value.int .i64 x)) ?_; first | exact eh | exact ei)), f2 (by omega), by (show Hp _ _ _ _ _); rw [List.append_nil]; exact hp.pik (by repeat (first | exact Pik.nil | exact Pik.refl _ | exact Rm.here | apply Rm.there | apply Pik.cons | apply Pik.skip))⟩
      | true =>
        obtain ⟨f1, f2⟩ := ok.figR hcI hd
        have eh : IntKind.i64.wrap ((R.length : Int) + 1) = (((R ++ [b[i]]).length : Nat) : Int) := by rw [wi64 (by omega) (by omega)]; simp
        have q0 : decide ((W.length : Int) > 30) = false := decide_eq_false (by omega)
        by_cases h9 : 9 ≤ R.length
        · have q : decide (IntKind.i64.wrap ((R.length : Int) + 1) > 9) = true := decide_eq_true (by rw [wi64 (by omega) (by omega)]; omega)
          repeat (first | (refine Br.no q0 ?_; conv => whnf) | (refine Br.yes q ?_; conv => whnf) | (first | (refine Br.yes (by first | with_reducible rfl | with_reducible exact beq_self_eq_true _ | rfl) ?_; conv => whnf) | (refine Br.no (by first | with_reducible rfl | with_reducible exact bne_self_eq_false _ | rfl) ?_; conv => whnf)))
          refine hp.storeW (vs := Dc.zero.cells) rfl (by repeat (first | exact Rm.here | apply Rm.there)) (by first | exact C2_same _ _ _ _ | exact C4_same _ _ _ _ _ _ _ _ | exact Dc_same _ _ | rfl) rfl rfl rfl ?_
          clear hp
          intro s hp _
          conv => whnf
          refine hp.loadA (l := Dc.zero.cells) (by repeat (first | exact Has.here | apply Has.there | (apply Has.swap; repeat (first | exact HasR.here | apply HasR.there)))) rfl (by rfl) rfl rfl ?_
          conv => whnf
          exact ⟨hp.fr, by rw [show readB ng b = errD 2 from if_pos (f1 h9)]; rfl⟩
        · have q : decide (IntKind.i64.wrap ((R.length : Int) + 1) > 9) = false := decide_eq_false (by rw [wi64 (by omega) (by omega)]; omega)
          repeat (first | (refine Br.no q0 ?_; conv => whnf) | (refine Br.no q ?_; conv => whnf) | (first | (refine Br.yes (by first | with_reducible rfl | with_reducible exact beq_self_eq_true _ | rfl) ?_; conv => whnf) | (refine Br.no (by first | with_reducible rfl | with_reducible exact bne_self_eq_false _ | rfl) ?_; conv => whnf)))
          refine Sm.ofW ?_
          conv => whnf
          exact ⟨(i + 1, W, R ++ [b[i]], true, κ5, v5), by (show b.length - (i + 1) < b.length - i); omega, subK_ok (by refine ⟨rfl, rfl, rfl, rfl, ?_, ?_, rfl, ?_, trivial⟩ <;> first | rfl | (refine congrArg (fun x => some (Value.int .i64 x)) ?_; first | exact eh | exact ei)), f2 (by omega), by (show Hp _ _ _ _ _); rw [← List.append_assoc]; exact hp.pik (by repeat (first | exact Pik.nil | exact Pik.refl _ | exact Rm.here | apply Rm.there | apply Pik.cons | apply Pik.skip))⟩
    | false =>
      repeat (first | (refine Br.yes (by first | with_reducible rfl | with_reducible exact beq_self_eq_true _ | rfl) ?_; conv => whnf) | (refine Br.no (by first | with_reducible rfl | with_reducible exact bne_self_eq_false _ | rfl) ?_; conv => whnf))
      refine Om.of _ (str_index Tryd.underlying9 (l := b) (i := i) hcI .i64) ?_
      conv => whnf
      by_cases hx : b[i] = 46
      · have q : (((b[i].toNat : Nat) : Int) == 46) = true := by rw [hx]; rfl
        cases pt with
        | true =>
          repeat (first | (refine Br.yes q ?_; conv => whnf) | (first | (refine Br.yes (by first | with_reducible rfl | with_reducible exact beq_self_eq_true _ | rfl) ?_; conv => whnf) | (refine Br.no (by first | with_reducible rfl | with_reducible exact bne_self_eq_false _ | rfl) ?_; conv => whnf)))
          refine hp.storeW (vs := Dc.zero.cells) rfl (by repeat (first | exact Rm.here | apply Rm.there)) (by first | exact C2_same _ _ _ _ | exact C4_same _ _ _ _ _ _ _ _ | exact Dc_same _ _ | rfl) rfl rfl rfl ?_
          clear hp
          intro s hp _
          conv => whnf
          refine hp.loadA (l := Dc.zero.cells) (by repeat (first | exact Has.here | apply Has.there | (apply Has.swap; repeat (first | exact HasR.here | apply HasR.there)))) rfl (by rfl) rfl rfl ?_
          conv => whnf
          exact ⟨hp.fr, by rw [show readB ng b = errD 2 from if_pos (ok.bad hcI hd (.inl rfl))]; rfl⟩
        | false =>
          obtain rfl := ok.off rfl
          obtain ⟨f1, f2⟩ := ok.dot hcI hx
          by_cases hW : W = []
          · subst hW
            repeat (first | (refine Br.yes q ?_; conv => whnf) | (first | (refine Br.yes (by first | with_reducible rfl | with_reducible exact beq_self_eq_true _ | rfl) ?_; conv => whnf) | (refine Br.no (by first | with_reducible rfl | with_reducible exact bne_self_eq_false _ | rfl) ?_; conv => whnf)))
            refine hp.storeW (vs := Dc.zero.cells) rfl (by repeat (first | exact Rm.here | apply Rm.there)) (by first | exact C2_same _ _ _ _ | exact C4_same _ _ _ _ _ _ _ _ | exact Dc_same _ _ | rfl) rfl rfl rfl ?_
            clear hp
            intro s hp _
            conv => whnf
            refine hp.loadA (l := Dc.zero.cells) (by repeat (first | exact Has.here | apply Has.there | (apply Has.swap; repeat (first | exact HasR.here | apply HasR.there)))) rfl (by rfl) rfl rfl ?_
            conv => whnf
            exact ⟨hp.fr, by rw [show readB ng b = errD 2 from if_pos (f1 rfl)]; rfl⟩
          · have hWl : 0 < W.length := List.length_pos_iff.2 hW
            have q2 : decide ((W.length : Int) > 0) = true := decide_eq_true (by omega)
            repeat (first | (refine Br.yes q ?_; conv => whnf) | (refine Br.yes q2 ?_; conv => whnf) | (first | (refine Br.yes (by first | with_reducible rfl | with_reducible exact beq_self_eq_true _ | rfl) ?_; conv => whnf) | (refine Br.no (by first | with_reducible rfl | with_reducible exact bne_self_eq_false _ | rfl) ?_; conv => whnf)))
            have eh : (0 : Int) = 0 := rfl
            refine Sm.ofW ?_
            conv => whnf
            exact ⟨(i + 1, W, [], true, κ, .slice aR (nL (W ++ [])).length cR), by (show b.length - (i + 1) < b.length - i); omega, subK_ok (by refine ⟨rfl, rfl, rfl, rfl, ?_, ?_, rfl, ?_, trivial⟩ <;> first | rfl | (refine congrArg (fun x => some (Value.int .i64 x)) ?_; first | exact eh | exact ei)), f2 hW, hp.pik (by repeat (first | exact Pik.nil | exact Pik.refl _ | exact Rm.here | apply Rm.there | apply Pik.cons | apply Pik.skip))⟩
      · have q : (((b[i].toNat : Nat) : Int) == 46) = false := beq_eq_false_iff_ne.2 (fun e => hx (UInt8.toNat_inj.1 (by show b[i].toNat = 46; omega)))
        repeat (first | (refine Br.no q ?_; conv => whnf) | (first | (refine Br.yes (by first | with_reducible rfl | with_reducible exact beq_self_eq_true _ | rfl) ?_; conv => whnf) | (refine Br.no (by first | with_reducible rfl | with_reducible exact bne_self_eq_false _ | rfl) ?_; conv => whnf)))
        refine hp.storeW (vs := Dc.zero.cells) rfl (by repeat (first | exact Rm.here | apply Rm.there)) (by first | exact C2_same _ _ _ _ | exact C4_same _ _ _ _ _ _ _ _ | exact Dc_same _ _ | rfl) rfl rfl rfl ?_
        clear hp
        intro s hp _
        conv => whnf
        refine hp.loadA (l := Dc.zero.cells) (by repeat (first | exact Has.here | apply Has.there | (apply Has.swap; repeat (first | exact HasR.here | apply HasR.there)))) rfl (by rfl) rfl rfl ?_
        conv => whnf
        exact ⟨hp.fr, by rw [show readB ng b = errD 2 from if_pos (ok.bad hcI hd (.inr hx))]; rfl⟩
  · have hc : ¬ i < b.length := by have h : ¬ (i : Int) < (b.length : Int) := of_decide_eq_false hc; omega
    obtain rfl : i = b.length := by omega
    have hfin := ok.fin ng
    have hnl : (nL (W ++ R)).length ≤ 39 := by rw [nL_len, List.length_append]; omega
    have hall : ∀ x ∈ W ++ R, isD x = true := fun x hx => by
      rcases List.mem_append.1 hx with g | g
      · exact ok.dW x g
      · exact ok.dR x g
    obtain ⟨t1, t2, t3⟩ := trim_ok _ (nL (W ++ R)) rfl (nL_lt hall)
    rw [Vd_nL] at t2
    conv => whnf
    refine Sm.seqW ?_
    conv => whnf
    refine (trim_spec _ (hp.okF (slA κ v 1 (nL (W ++ R)).length (natI (nL (W ++ R)))) (by simp)) (by omega)).mono ?_
    rintro v6 s6 ⟨rfl, hr6⟩
    obtain ⟨a6, c6, rfl⟩ := hr6.shape
    generalize hT : trimL (nL (W ++ R)) = T at *
    have hz := t1.zero
    rw [t2] at hz
    conv => whnf
    refine Sm.live [2, 4, 5, 6, 7, 8] ?_
    conv => whnf
    refine Sm.seq ?_
    refine Sm.seqC (fun e L' s'' => e = .normal ∧ s'' = s6 ∧ Sub [(2, .pointer (some ⟨p2, 0, none⟩)), (4, .bool ng), (5, .slice a6 T.length c6), (7, .int .i64 ((R.length : Nat) : Int)), (90, .bool (decide (W = [] ∨ (pt = true ∧ R = []) ∨ (ng = true ∧ valD (W ++ R) = 0))))] L') ?_ ?_
    · have key : ∀ bb : Bool, (bb = true ↔ (W.length = 0 ∨ (pt = true ∧ R.length = 0) ∨ (ng = true ∧ T.length = 0))) → bb = decide (W = [] ∨ (pt = true ∧ R = []) ∨ (ng = true ∧ valD (W ++ R) = 0)) := fun bb hbb => by
        rw [Bool.eq_iff_iff, hbb, decide_eq_true_iff, List.length_eq_zero_iff, List.length_eq_zero_iff, hz]
      clear hfin hz hnl hr9 hw30 hp hr6 t1 t2 t3 ok hT
      conv => whnf
      repeat' (first | (refine Br.yes (by first | with_reducible rfl | with_reducible assumption) ?_; conv => whnf) | (refine Br.no (by first | with_reducible rfl | with_reducible assumption) ?_; conv => whnf) | (refine Br.mk (fun hq => ?_) (fun hq => ?_) <;> conv => whnf))
      all_goals refine ⟨rfl, rfl, subK_ok ⟨rfl, rfl, rfl, rfl, congrArg (fun x => some (Value.bool x)) (key _ ?_), trivial⟩⟩
      all_goals (clear key; cases pt <;> cases ng <;> simp [-List.length_eq_zero_iff] at * <;> omega)
    rintro e L' s' ⟨rfl, rfl, hs⟩
    refine Sm.weak _ hs ?_
    clear hs
    refine Sm.ofW ?_
    conv => whnf
    refine Br.mk (fun hc => ?_) (fun hc => ?_)
    · have hc := of_decide_eq_true hc
      rw [if_pos hc] at hfin
      conv => whnf
      refine hp.storeW (vs := Dc.zero.cells) rfl (by repeat (first | exact Rm.here | apply Rm.there)) (by first | exact C2_same _ _ _ _ | exact C4_same _ _ _ _ _ _ _ _ | exact Dc_same _ _ | rfl) rfl rfl rfl ?_
      clear hp
      intro s hp _
      conv => whnf
      refine hp.loadA (l := Dc.zero.cells) (by repeat (first | exact Has.here | apply Has.there | (apply Has.swap; repeat (first | exact HasR.here | apply HasR.there)))) rfl (by rfl) rfl rfl ?_
      conv => whnf
      exact ⟨hp.fr, by rw [hfin]; rfl⟩
    · have hc := of_decide_eq_false hc
      rw [if_neg hc] at hfin
      conv => whnf
      refine Sm.seqW ?_
      conv => whnf
      refine hp.call (make_spec hp.wf ng (l := T) hr6 t1 (by omega) ((R.length : Nat) : Int)) ?_
      clear hp
      rintro _ s rfl hp _
      conv => whnf
      rw [makeF_ok (by omega) (by omega), t2, ← hfin]
      obtain ⟨r, re, hx⟩ := dmade_shape ng (valD (W ++ R)) ((R.length : Nat) : Int)
      rw [← hfin] at hx
      rw [hx]
      conv => whnf
      refine hp.storeW (vs := r.cells) rfl (by repeat (first | exact Rm.here | apply Rm.there)) (by first | exact C2_same _ _ _ _ | exact C4_same _ _ _ _ _ _ _ _ | exact Dc_same _ _ | rfl) rfl rfl rfl ?_
      clear hp
      intro s hp _
      conv => whnf
      refine Sm.ofW ?_
      conv => whnf
      refine hp.loadA (l := r.cells) (by repeat (first | exact Has.here | apply Has.there | (apply Has.swap; repeat (first | exact HasR.here | apply HasR.there)))) rfl (by rfl) rfl rfl ?_
      conv => whnf
      exact ⟨hp.fr, rfl⟩
end Go.Ev
end

/- DecTells walked. No condition. -/
noncomputable section
namespace Go.Ev
open Go.Proofs
set_option linter.unusedVariables false
set_option maxRecDepth 100000

theorem readF_shape (l : List UInt8) : ∃ (d : Dc) (e : Int), readF l = .tuple #[d.val, .int .i64 e] := by
  unfold readF
  split
  · exact ⟨_, _, rfl⟩
  · split
    · exact ⟨_, _, rfl⟩
    · split
      · exact ⟨_, _, rfl⟩
      · exact ⟨_, _, rfl⟩
theorem decTells_walk {s0 : St} (wf : WF s0) {n scale bend m other twist : Int} {raw : ByteArray} {k : Int} (hn : inR n) (hsc : inR scale) (hbe : inR bend) (hm : inR m) (hot : inR other) (htw : inR twist) (hraw : (bs raw).length ≤ 140737488351232) (hk : inR k) :
    Cw Tryd.prog 8 [.int .i64 n, .int .i64 scale, .int .i64 bend, .int .i64 m, .int .i64 other, .int .i64 twist, .string raw, .int .i64 k] s0 fun r _ => r = .bool true := by
  rw [sv_bs raw]
  generalize bs raw = raw at *
  have hp : Hp (fun _ => False) s0 [] [] s0 := Hp.start _ wf _ (by simp)
  have b3 := Int.emod_nonneg k (show (13 : Int) ≠ 0 by decide)
  have b4 := Int.emod_lt_of_pos k (show (0 : Int) < 13 by decide)
  obtain ⟨T, hT⟩ : ∃ T, T = k % 13 - 2 := ⟨_, rfl⟩
  have e1 : IntKind.i64.wrap (k % 13 - 2) = T := by rw [hT]; exact wi64 (by omega) (by omega)
  clear hT b3 b4
  refine Cw.enterS Tryd.func8 rfl rfl ?_
  refine Sm.seqW ?_
  conv => whnf
  refine Sm.live [0, 1, 2, 3, 4, 5, 6, 7] ?_
  conv => whnf
  refine Sm.seqW ?_
  conv => whnf
  refine hp.call (hdec_spec hp.wf hn hsc hbe) ?_
  clear hp
  rintro _ s ⟨a, ha, sa, rfl⟩ hp _
  conv => whnf
  refine hp.alloc (cs := Dc.zero.cells) (e := 4) rfl rfl rfl rfl rfl ?_
  clear hp
  intro p17 s hp _
  conv => whnf
  refine hp.storeW (vs := a.cells) rfl (by repeat (first | exact Rm.here | apply Rm.there)) (by first | exact C2_same _ _ _ _ | exact C4_same _ _ _ _ _ _ _ _ | exact Dc_same _ _ | rfl) rfl rfl rfl ?_
  clear hp
  intro s hp _
  conv => whnf
  refine Sm.live [0, 1, 2, 3, 4, 5, 6, 7, 17] ?_
  conv => whnf
  refine Sm.seqW ?_
  conv => whnf
  refine hp.call (hdec_spec hp.wf hm hot htw) ?_
  clear hp
  rintro _ s ⟨b, hb, sb, rfl⟩ hp _
  conv => whnf
  refine hp.alloc (cs := Dc.zero.cells) (e := 4) rfl rfl rfl rfl rfl ?_
  clear hp
  intro p18 s hp _
  conv => whnf
  refine hp.storeW (vs := b.cells) rfl (by repeat (first | exact Rm.here | apply Rm.there)) (by first | exact C2_same _ _ _ _ | exact C4_same _ _ _ _ _ _ _ _ | exact Dc_same _ _ | rfl) rfl rfl rfl ?_
  clear hp
  intro s hp _
  conv => whnf
  refine Sm.live [0, 1, 2, 6, 7, 17, 18] ?_
  conv => whnf
  refine Sm.seqW ?_
  conv => whnf
  refine (pick_spec _ hk (m := 13) (by decide) (by decide)).mono ?_
  rintro _ s1 ⟨h1, rfl⟩
  obtain rfl := h1.symm
  conv => whnf
  rw [e1]
  refine Sm.live [0, 1, 2, 6, 7, 17, 18] ?_
  conv => whnf
  refine Sm.seqW ?_
  conv => whnf
  refine hp.loadA (l := a.cells) (by repeat (first | exact Has.here | apply Has.there | (apply Has.swap; repeat (first | exact HasR.here | apply HasR.there)))) rfl (by rfl) rfl rfl ?_
  conv => whnf
  refine hp.loadA (l := b.cells) (by repeat (first | exact Has.here | apply Has.there | (apply Has.swap; repeat (first | exact HasR.here | apply HasR.there)))) rfl (by rfl) rfl rfl ?_
  conv => whnf
  refine hp.call (decAdd_spec hp.wf a b ha hb) ?_
  clear hp
  rintro _ s rfl hp _
  conv => whnf
  obtain ⟨x, xe, hx⟩ := addF_shape a b
  rw [hx]
  conv => whnf
  refine hp.alloc (cs := Dc.zero.cells) (e := 4) rfl rfl rfl rfl rfl ?_
  clear hp
  intro p19 s hp _
  conv => whnf
  refine hp.storeW (vs := x.cells) rfl (by repeat (first | exact Rm.here | apply Rm.there)) (by first | exact C2_same _ _ _ _ | exact C4_same _ _ _ _ _ _ _ _ | exact Dc_same _ _ | rfl) rfl rfl rfl ?_
  clear hp
  intro s hp _
  conv => whnf
  refine Sm.live [0, 1, 2, 6, 7, 17, 18, 19, 20] ?_
  conv => whnf
  refine Sm.seqW ?_
  conv => whnf
  refine hp.loadA (l := a.cells) (by repeat (first | exact Has.here | apply Has.there | (apply Has.swap; repeat (first | exact HasR.here | apply HasR.there)))) rfl (by rfl) rfl rfl ?_
  conv => whnf
  refine hp.loadA (l := b.cells) (by repeat (first | exact Has.here | apply Has.there | (apply Has.swap; repeat (first | exact HasR.here | apply HasR.there)))) rfl (by rfl) rfl rfl ?_
  conv => whnf
  refine hp.call (decSub_spec hp.wf a b ha hb) ?_
  clear hp
  rintro _ s rfl hp _
  conv => whnf
  obtain ⟨y, ye, hy⟩ := subF_shape a b
  rw [hy]
  conv => whnf
  refine hp.alloc (cs := Dc.zero.cells) (e := 4) rfl rfl rfl rfl rfl ?_
  clear hp
  intro p21 s hp _
  conv => whnf
  refine hp.storeW (vs := y.cells) rfl (by repeat (first | exact Rm.here | apply Rm.there)) (by first | exact C2_same _ _ _ _ | exact C4_same _ _ _ _ _ _ _ _ | exact Dc_same _ _ | rfl) rfl rfl rfl ?_
  clear hp
  intro s hp _
  conv => whnf
  refine Sm.live [0, 1, 2, 6, 7, 17, 18, 19, 20, 21, 22] ?_
  conv => whnf
  refine Sm.seqW ?_
  conv => whnf
  refine hp.loadA (l := a.cells) (by repeat (first | exact Has.here | apply Has.there | (apply Has.swap; repeat (first | exact HasR.here | apply HasR.there)))) rfl (by rfl) rfl rfl ?_
  conv => whnf
  refine hp.loadA (l := b.cells) (by repeat (first | exact Has.here | apply Has.there | (apply Has.swap; repeat (first | exact HasR.here | apply HasR.there)))) rfl (by rfl) rfl rfl ?_
  conv => whnf
  refine hp.call (decMul_spec hp.wf a b ha hb) ?_
  clear hp
  rintro _ s rfl hp _
  conv => whnf
  obtain ⟨z, ze, hz⟩ := mulF_shape a b
  rw [hz]
  conv => whnf
  refine hp.alloc (cs := Dc.zero.cells) (e := 4) rfl rfl rfl rfl rfl ?_
  clear hp
  intro p23 s hp _
  conv => whnf
  refine hp.storeW (vs := z.cells) rfl (by repeat (first | exact Rm.here | apply Rm.there)) (by first | exact C2_same _ _ _ _ | exact C4_same _ _ _ _ _ _ _ _ | exact Dc_same _ _ | rfl) rfl rfl rfl ?_
  clear hp
  intro s hp _
  conv => whnf
  refine Sm.live [0, 1, 2, 6, 7, 17, 18, 19, 20, 21, 22, 23, 24] ?_
  conv => whnf
  refine Sm.seqW ?_
  conv => whnf
  refine hp.loadA (l := a.cells) (by repeat (first | exact Has.here | apply Has.there | (apply Has.swap; repeat (first | exact HasR.here | apply HasR.there)))) rfl (by rfl) rfl rfl ?_
  conv => whnf
  refine hp.call (dscaled_spec hp.wf a ha T) ?_
  clear hp
  rintro _ s rfl hp _
  conv => whnf
  obtain ⟨w, we, hw⟩ := scaledF_shape a T
  rw [hw]
  conv => whnf
  refine hp.alloc (cs := Dc.zero.cells) (e := 4) rfl rfl rfl rfl rfl ?_
  clear hp
  intro p25 s hp _
  conv => whnf
  refine hp.storeW (vs := w.cells) rfl (by repeat (first | exact Rm.here | apply Rm.there)) (by first | exact C2_same _ _ _ _ | exact C4_same _ _ _ _ _ _ _ _ | exact Dc_same _ _ | rfl) rfl rfl rfl ?_
  clear hp
  intro s hp _
  conv => whnf
  refine Sm.live [0, 1, 2, 6, 7, 17, 18, 19, 20, 21, 22, 23, 24, 25, 26] ?_
  conv => whnf
  refine Sm.seqW ?_
  conv => whnf
  refine hp.loadA (l := a.cells) (by repeat (first | exact Has.here | apply Has.there | (apply Has.swap; repeat (first | exact HasR.here | apply HasR.there)))) rfl (by rfl) rfl rfl ?_
  conv => whnf
  refine hp.loadA (l := b.cells) (by repeat (first | exact Has.here | apply Has.there | (apply Has.swap; repeat (first | exact HasR.here | apply HasR.there)))) rfl (by rfl) rfl rfl ?_
  conv => whnf
  refine hp.call (radd_spec hp.wf a b ha hb) ?_
  clear hp
  rintro _ s rfl hp _
  conv => whnf
  rw [hx]
  conv => whnf
  refine hp.alloc (cs := Dc.zero.cells) (e := 4) rfl rfl rfl rfl rfl ?_
  clear hp
  intro p27 s hp _
  conv => whnf
  refine hp.storeW (vs := x.cells) rfl (by repeat (first | exact Rm.here | apply Rm.there)) (by first | exact C2_same _ _ _ _ | exact C4_same _ _ _ _ _ _ _ _ | exact Dc_same _ _ | rfl) rfl rfl rfl ?_
  clear hp
  intro s hp _
  conv => whnf
  refine Sm.live [0, 1, 2, 6, 7, 17, 18, 19, 20, 21, 22, 23, 24, 25, 26, 27, 28] ?_
  conv => whnf
  refine Sm.seqW ?_
  conv => whnf
  refine hp.loadA (l := a.cells) (by repeat (first | exact Has.here | apply Has.there | (apply Has.swap; repeat (first | exact HasR.here | apply HasR.there)))) rfl (by rfl) rfl rfl ?_
  conv => whnf
  refine hp.loadA (l := b.cells) (by repeat (first | exact Has.here | apply Has.there | (apply Has.swap; repeat (first | exact HasR.here | apply HasR.there)))) rfl (by rfl) rfl rfl ?_
  conv => whnf
  refine hp.call (rsub_spec hp.wf a b ha hb) ?_
  clear hp
  rintro _ s rfl hp _
  conv => whnf
  rw [hy]
  conv => whnf
  refine hp.alloc (cs := Dc.zero.cells) (e := 4) rfl rfl rfl rfl rfl ?_
  clear hp
  intro p29 s hp _
  conv => whnf
  refine hp.storeW (vs := y.cells) rfl (by repeat (first | exact Rm.here | apply Rm.there)) (by first | exact C2_same _ _ _ _ | exact C4_same _ _ _ _ _ _ _ _ | exact Dc_same _ _ | rfl) rfl rfl rfl ?_
  clear hp
  intro s hp _
  conv => whnf
  refine Sm.live [0, 1, 2, 6, 7, 17, 18, 19, 20, 21, 22, 23, 24, 25, 26, 27, 28, 29, 30] ?_
  conv => whnf
  refine Sm.seqW ?_
  conv => whnf
  refine hp.loadA (l := a.cells) (by repeat (first | exact Has.here | apply Has.there | (apply Has.swap; repeat (first | exact HasR.here | apply HasR.there)))) rfl (by rfl) rfl rfl ?_
  conv => whnf
  refine hp.loadA (l := b.cells) (by repeat (first | exact Has.here | apply Has.there | (apply Has.swap; repeat (first | exact HasR.here | apply HasR.there)))) rfl (by rfl) rfl rfl ?_
  conv => whnf
  refine hp.call (rmul_spec hp.wf a b ha hb) ?_
  clear hp
  rintro _ s rfl hp _
  conv => whnf
  rw [hz]
  conv => whnf
  refine hp.alloc (cs := Dc.zero.cells) (e := 4) rfl rfl rfl rfl rfl ?_
  clear hp
  intro p31 s hp _
  conv => whnf
  refine hp.storeW (vs := z.cells) rfl (by repeat (first | exact Rm.here | apply Rm.there)) (by first | exact C2_same _ _ _ _ | exact C4_same _ _ _ _ _ _ _ _ | exact Dc_same _ _ | rfl) rfl rfl rfl ?_
  clear hp
  intro s hp _
  conv => whnf
  refine Sm.live [0, 1, 2, 6, 7, 17, 18, 19, 20, 21, 22, 23, 24, 25, 26, 27, 28, 29, 30, 31, 32] ?_
  conv => whnf
  refine Sm.seqW ?_
  conv => whnf
  refine hp.loadA (l := a.cells) (by repeat (first | exact Has.here | apply Has.there | (apply Has.swap; repeat (first | exact HasR.here | apply HasR.there)))) rfl (by rfl) rfl rfl ?_
  conv => whnf
  refine hp.call (rscaled_spec hp.wf a ha T) ?_
  clear hp
  rintro _ s rfl hp _
  conv => whnf
  rw [hw]
  conv => whnf
  refine hp.alloc (cs := Dc.zero.cells) (e := 4) rfl rfl rfl rfl rfl ?_
  clear hp
  intro p33 s hp _
  conv => whnf
  refine hp.storeW (vs := w.cells) rfl (by repeat (first | exact Rm.here | apply Rm.there)) (by first | exact C2_same _ _ _ _ | exact C4_same _ _ _ _ _ _ _ _ | exact Dc_same _ _ | rfl) rfl rfl rfl ?_
  clear hp
  intro s hp _
  conv => whnf
  refine Sm.live [0, 1, 2, 6, 7, 17, 18, 19, 20, 21, 22, 23, 24, 25, 26, 27, 28, 29, 30, 31, 32, 33, 34] ?_
  conv => whnf
  refine Sm.seqW ?_
  conv => whnf
  refine hp.call (text_spec hp.wf hn hsc hbe raw) ?_
  clear hp
  rintro _ s ⟨t, ht, rfl⟩ hp _
  conv => whnf
  have htl : t.length < 4611686018427387904 := by omega
  refine Sm.live [0, 1, 7, 17, 18, 19, 20, 21, 22, 23, 24, 25, 26, 27, 28, 29, 30, 31, 32, 33, 34, 35] ?_
  conv => whnf
  refine Sm.seqW ?_
  conv => whnf
  refine hp.call (read_spec hp.wf t htl) ?_
  clear hp
  rintro _ s rfl hp _
  conv => whnf
  obtain ⟨u, ue, hu⟩ := readF_shape t
  rw [hu]
  conv => whnf
  refine hp.alloc (cs := Dc.zero.cells) (e := 4) rfl rfl rfl rfl rfl ?_
  clear hp
  intro p36 s hp _
  conv => whnf
  refine hp.storeW (vs := u.cells) rfl (by repeat (first | exact Rm.here | apply Rm.there)) (by first | exact C2_same _ _ _ _ | exact C4_same _ _ _ _ _ _ _ _ | exact Dc_same _ _ | rfl) rfl rfl rfl ?_
  clear hp
  intro s hp _
  conv => whnf
  refine Sm.live [0, 1, 7, 17, 18, 19, 20, 21, 22, 23, 24, 25, 26, 27, 28, 29, 30, 31, 32, 33, 34, 35, 36, 37] ?_
  conv => whnf
  refine Sm.seqW ?_
  conv => whnf
  refine hp.call (rread_spec hp.wf t htl) ?_
  clear hp
  rintro _ s rfl hp _
  conv => whnf
  rw [hu]
  conv => whnf
  refine hp.alloc (cs := Dc.zero.cells) (e := 4) rfl rfl rfl rfl rfl ?_
  clear hp
  intro p38 s hp _
  conv => whnf
  refine hp.storeW (vs := u.cells) rfl (by repeat (first | exact Rm.here | apply Rm.there)) (by first | exact C2_same _ _ _ _ | exact C4_same _ _ _ _ _ _ _ _ | exact Dc_same _ _ | rfl) rfl rfl rfl ?_
  clear hp
  intro s hp _
  conv => whnf
  refine Sm.live [0, 1, 7, 17, 18, 19, 20, 21, 22, 23, 24, 25, 26, 27, 28, 29, 30, 31, 32, 33, 34, 36, 37, 38, 39] ?_
  conv => whnf
  refine Sm.seqW ?_
  conv => whnf
  refine ⟨[0, 1, 3, 3, 15, 31, 63, 127, 127, 511, 1023, 2047, 4095, 4095, 16383, 32767, 65535, 131071, 131071, 524287, 1048575, 2097151, 4194303, 4194303, 16777215, 33554431, 67108863, 134217727, 134217727, 536870911, 1073741823, 2147483647, 4294967295, 4294967295, 17179869183, 34359738367, 68719476735, 137438953471, 137438953471, 549755813887, 1099511627775, 2199023255551, 4398046511103, 4398046511103, 17592186044415, 35184372088831, 70368744177663, 140737488355327, 140737488355327, 562949953421311, 1125899906842623, 2251799813685247, 4503599627370495, 9007199254740991, 4503599627370495, 36028797018963967, 72057594037927935, 144115188075855871, 288230376151711743, 576460752303423487, 1152921504606846975, 576460752303423487, 4611686018427387903, 9223372036854775807, 18446744073709551615, 36893488147419103231, 73786976294838206463, 147573952589676412927, 73786976294838206463, 590295810358705651711, 1180591620717411303423, 2361183241434822606847, 4722366482869645213695, 9444732965739290427391, 9444732965739290427391, 37778931862957161709567, 9444732965739290427391, 9444732965739290427391, 302231454903657293676543, 604462909807314587353087, 1208925819614629174706175, 2417851639229258349412351, 4835703278458516698824703, 9671406556917033397649407, 4835703278458516698824703, 38685626227668133590597631, 77371252455336267181195263, 154742504910672534362390527, 309485009821345068724781055, 618970019642690137449562111, 618970019642690137449562111, 2475880078570760549798248447, 618970019642690137449562111, 618970019642690137449562111, 19807040628566084398385987583, 39614081257132168796771975167, 79228162514264337593543950335, 158456325028528675187087900671, 316912650057057350374175801343, 316912650057057350374175801343, 1267650600228229401496703205375, 316912650057057350374175801343, 316912650057057350374175801343, 10141204801825835211973625643007, 20282409603651670423947251286015, 40564819207303340847894502572031, 81129638414606681695789005144063], by decide +kernel, by decide +kernel, ?_⟩
  conv => whnf
  refine hp.rst.call (dknown_spec hp.rst.wf) ?_
  rintro _ s1 rfl h1 k1
  conv => whnf
  refine hp.dkN h1 k1 ?_
  clear hp h1 k1
  intro s hp
  conv => whnf
  repeat (first | (refine Br.yes (by first | with_reducible rfl | with_reducible exact beq_self_eq_true _ | rfl) ?_; conv => whnf) | (refine Br.no (by first | with_reducible rfl | with_reducible exact bne_self_eq_false _ | rfl) ?_; conv => whnf))
  refine hp.loadA (l := x.cells) (by repeat (first | exact Has.here | apply Has.there | (apply Has.swap; repeat (first | exact HasR.here | apply HasR.there)))) rfl (by rfl) rfl rfl ?_
  conv => whnf
  repeat (first | (refine Br.yes (by first | with_reducible rfl | with_reducible exact beq_self_eq_true _ | rfl) ?_; conv => whnf) | (refine Br.no (by first | with_reducible rfl | with_reducible exact bne_self_eq_false _ | rfl) ?_; conv => whnf))
  refine hp.loadA (l := x.cells) (by repeat (first | exact Has.here | apply Has.there | (apply Has.swap; repeat (first | exact HasR.here | apply HasR.there)))) rfl (by rfl) rfl rfl ?_
  conv => whnf
  repeat (first | (refine Br.yes (by first | with_reducible rfl | with_reducible exact beq_self_eq_true _ | rfl) ?_; conv => whnf) | (refine Br.no (by first | with_reducible rfl | with_reducible exact bne_self_eq_false _ | rfl) ?_; conv => whnf))
  refine Om.of _ (dcv_eq x _) ?_
  conv => whnf
  repeat (first | (refine Br.yes (by first | with_reducible rfl | with_reducible exact beq_self_eq_true _ | rfl) ?_; conv => whnf) | (refine Br.no (by first | with_reducible rfl | with_reducible exact bne_self_eq_false _ | rfl) ?_; conv => whnf))
  refine hp.loadA (l := y.cells) (by repeat (first | exact Has.here | apply Has.there | (apply Has.swap; repeat (first | exact HasR.here | apply HasR.there)))) rfl (by rfl) rfl rfl ?_
  conv => whnf
  repeat (first | (refine Br.yes (by first | with_reducible rfl | with_reducible exact beq_self_eq_true _ | rfl) ?_; conv => whnf) | (refine Br.no (by first | with_reducible rfl | with_reducible exact bne_self_eq_false _ | rfl) ?_; conv => whnf))
  refine hp.loadA (l := y.cells) (by repeat (first | exact Has.here | apply Has.there | (apply Has.swap; repeat (first | exact HasR.here | apply HasR.there)))) rfl (by rfl) rfl rfl ?_
  conv => whnf
  repeat (first | (refine Br.yes (by first | with_reducible rfl | with_reducible exact beq_self_eq_true _ | rfl) ?_; conv => whnf) | (refine Br.no (by first | with_reducible rfl | with_reducible exact bne_self_eq_false _ | rfl) ?_; conv => whnf))
  refine Om.of _ (dcv_eq y _) ?_
  conv => whnf
  repeat (first | (refine Br.yes (by first | with_reducible rfl | with_reducible exact beq_self_eq_true _ | rfl) ?_; conv => whnf) | (refine Br.no (by first | with_reducible rfl | with_reducible exact bne_self_eq_false _ | rfl) ?_; conv => whnf))
  refine hp.loadA (l := z.cells) (by repeat (first | exact Has.here | apply Has.there | (apply Has.swap; repeat (first | exact HasR.here | apply HasR.there)))) rfl (by rfl) rfl rfl ?_
  conv => whnf
  repeat (first | (refine Br.yes (by first | with_reducible rfl | with_reducible exact beq_self_eq_true _ | rfl) ?_; conv => whnf) | (refine Br.no (by first | with_reducible rfl | with_reducible exact bne_self_eq_false _ | rfl) ?_; conv => whnf))
  refine hp.loadA (l := z.cells) (by repeat (first | exact Has.here | apply Has.there | (apply Has.swap; repeat (first | exact HasR.here | apply HasR.there)))) rfl (by rfl) rfl rfl ?_
  conv => whnf
  repeat (first | (refine Br.yes (by first | with_reducible rfl | with_reducible exact beq_self_eq_true _ | rfl) ?_; conv => whnf) | (refine Br.no (by first | with_reducible rfl | with_reducible exact bne_self_eq_false _ | rfl) ?_; conv => whnf))
  refine Om.of _ (dcv_eq z _) ?_
  conv => whnf
  repeat (first | (refine Br.yes (by first | with_reducible rfl | with_reducible exact beq_self_eq_true _ | rfl) ?_; conv => whnf) | (refine Br.no (by first | with_reducible rfl | with_reducible exact bne_self_eq_false _ | rfl) ?_; conv => whnf))
  refine hp.loadA (l := w.cells) (by repeat (first | exact Has.here | apply Has.there | (apply Has.swap; repeat (first | exact HasR.here | apply HasR.there)))) rfl (by rfl) rfl rfl ?_
  conv => whnf
  repeat (first | (refine Br.yes (by first | with_reducible rfl | with_reducible exact beq_self_eq_true _ | rfl) ?_; conv => whnf) | (refine Br.no (by first | with_reducible rfl | with_reducible exact bne_self_eq_false _ | rfl) ?_; conv => whnf))
  refine hp.loadA (l := w.cells) (by repeat (first | exact Has.here | apply Has.there | (apply Has.swap; repeat (first | exact HasR.here | apply HasR.there)))) rfl (by rfl) rfl rfl ?_
  conv => whnf
  repeat (first | (refine Br.yes (by first | with_reducible rfl | with_reducible exact beq_self_eq_true _ | rfl) ?_; conv => whnf) | (refine Br.no (by first | with_reducible rfl | with_reducible exact bne_self_eq_false _ | rfl) ?_; conv => whnf))
  refine Om.of _ (dcv_eq w _) ?_
  conv => whnf
  repeat (first | (refine Br.yes (by first | with_reducible rfl | with_reducible exact beq_self_eq_true _ | rfl) ?_; conv => whnf) | (refine Br.no (by first | with_reducible rfl | with_reducible exact bne_self_eq_false _ | rfl) ?_; conv => whnf))
  refine hp.loadA (l := u.cells) (by repeat (first | exact Has.here | apply Has.there | (apply Has.swap; repeat (first | exact HasR.here | apply HasR.there)))) rfl (by rfl) rfl rfl ?_
  conv => whnf
  repeat (first | (refine Br.yes (by first | with_reducible rfl | with_reducible exact beq_self_eq_true _ | rfl) ?_; conv => whnf) | (refine Br.no (by first | with_reducible rfl | with_reducible exact bne_self_eq_false _ | rfl) ?_; conv => whnf))
  refine hp.loadA (l := u.cells) (by repeat (first | exact Has.here | apply Has.there | (apply Has.swap; repeat (first | exact HasR.here | apply HasR.there)))) rfl (by rfl) rfl rfl ?_
  conv => whnf
  repeat (first | (refine Br.yes (by first | with_reducible rfl | with_reducible exact beq_self_eq_true _ | rfl) ?_; conv => whnf) | (refine Br.no (by first | with_reducible rfl | with_reducible exact bne_self_eq_false _ | rfl) ?_; conv => whnf))
  refine Om.of _ (dcv_eq u _) ?_
  conv => whnf
  repeat (first | (refine Br.yes (by first | with_reducible rfl | with_reducible exact beq_self_eq_true _ | rfl) ?_; conv => whnf) | (refine Br.no (by first | with_reducible rfl | with_reducible exact bne_self_eq_false _ | rfl) ?_; conv => whnf))
  refine hp.loadA (l := a.cells) (by repeat (first | exact Has.here | apply Has.there | (apply Has.swap; repeat (first | exact HasR.here | apply HasR.there)))) rfl (by rfl) rfl rfl ?_
  conv => whnf
  repeat (first | (refine Br.yes (by first | with_reducible rfl | with_reducible exact beq_self_eq_true _ | rfl) ?_; conv => whnf) | (refine Br.no (by first | with_reducible rfl | with_reducible exact bne_self_eq_false _ | rfl) ?_; conv => whnf))
  refine hp.rst.call (right_spec hp.rst.wf a ha) ?_
  rintro _ s1 rfl h1 k1
  conv => whnf
  refine hp.dkN h1 k1 ?_
  clear hp h1 k1
  intro s hp
  conv => whnf
  repeat (first | (refine Br.yes (by first | with_reducible rfl | with_reducible exact beq_self_eq_true _ | rfl) ?_; conv => whnf) | (refine Br.no (by first | with_reducible rfl | with_reducible exact bne_self_eq_false _ | rfl) ?_; conv => whnf))
  refine hp.loadA (l := a.cells) (by repeat (first | exact Has.here | apply Has.there | (apply Has.swap; repeat (first | exact HasR.here | apply HasR.there)))) rfl (by rfl) rfl rfl ?_
  conv => whnf
  repeat (first | (refine Br.yes (by first | with_reducible rfl | with_reducible exact beq_self_eq_true _ | rfl) ?_; conv => whnf) | (refine Br.no (by first | with_reducible rfl | with_reducible exact bne_self_eq_false _ | rfl) ?_; conv => whnf))
  refine hp.rst.call (rightDec_spec hp.rst.wf a ha) ?_
  rintro _ s1 rfl h1 k1
  conv => whnf
  refine hp.dkN h1 k1 ?_
  clear hp h1 k1
  intro s hp
  conv => whnf
  repeat (first | (refine Br.yes (by first | with_reducible rfl | with_reducible exact beq_self_eq_true _ | rfl) ?_; conv => whnf) | (refine Br.no (by first | with_reducible rfl | with_reducible exact bne_self_eq_false _ | rfl) ?_; conv => whnf))
  refine Om.of _ (rfl) ?_
  conv => whnf
  repeat (first | (refine Br.yes (by first | with_reducible rfl | with_reducible exact beq_self_eq_true _ | rfl) ?_; conv => whnf) | (refine Br.no (by first | with_reducible rfl | with_reducible exact bne_self_eq_false _ | rfl) ?_; conv => whnf))
  refine hp.loadA (l := a.cells) (by repeat (first | exact Has.here | apply Has.there | (apply Has.swap; repeat (first | exact HasR.here | apply HasR.there)))) rfl (by rfl) rfl rfl ?_
  conv => whnf
  repeat (first | (refine Br.yes (by first | with_reducible rfl | with_reducible exact beq_self_eq_true _ | rfl) ?_; conv => whnf) | (refine Br.no (by first | with_reducible rfl | with_reducible exact bne_self_eq_false _ | rfl) ?_; conv => whnf))
  refine hp.rst.call (dneg_spec hp.rst.wf a ha) ?_
  rintro _ s1 rfl h1 k1
  conv => whnf
  refine hp.dkN h1 k1 ?_
  clear hp h1 k1
  intro s hp
  conv => whnf
  repeat (first | (refine Br.yes (by first | with_reducible rfl | with_reducible exact beq_self_eq_true _ | rfl) ?_; conv => whnf) | (refine Br.no (by first | with_reducible rfl | with_reducible exact bne_self_eq_false _ | rfl) ?_; conv => whnf))
  refine hp.loadA (l := a.cells) (by repeat (first | exact Has.here | apply Has.there | (apply Has.swap; repeat (first | exact HasR.here | apply HasR.there)))) rfl (by rfl) rfl rfl ?_
  conv => whnf
  repeat (first | (refine Br.yes (by first | with_reducible rfl | with_reducible exact beq_self_eq_true _ | rfl) ?_; conv => whnf) | (refine Br.no (by first | with_reducible rfl | with_reducible exact bne_self_eq_false _ | rfl) ?_; conv => whnf))
  refine hp.rst.call (rneg_spec hp.rst.wf a ha) ?_
  rintro _ s1 rfl h1 k1
  conv => whnf
  refine hp.dkN h1 k1 ?_
  clear hp h1 k1
  intro s hp
  conv => whnf
  repeat (first | (refine Br.yes (by first | with_reducible rfl | with_reducible exact beq_self_eq_true _ | rfl) ?_; conv => whnf) | (refine Br.no (by first | with_reducible rfl | with_reducible exact bne_self_eq_false _ | rfl) ?_; conv => whnf))
  refine Om.of _ (dcv_eq (negF a) _) ?_
  conv => whnf
  repeat (first | (refine Br.yes (by first | with_reducible rfl | with_reducible exact beq_self_eq_true _ | rfl) ?_; conv => whnf) | (refine Br.no (by first | with_reducible rfl | with_reducible exact bne_self_eq_false _ | rfl) ?_; conv => whnf))
  refine hp.loadA (l := a.cells) (by repeat (first | exact Has.here | apply Has.there | (apply Has.swap; repeat (first | exact HasR.here | apply HasR.there)))) rfl (by rfl) rfl rfl ?_
  conv => whnf
  repeat (first | (refine Br.yes (by first | with_reducible rfl | with_reducible exact beq_self_eq_true _ | rfl) ?_; conv => whnf) | (refine Br.no (by first | with_reducible rfl | with_reducible exact bne_self_eq_false _ | rfl) ?_; conv => whnf))
  refine hp.rst.call (dsign_spec hp.rst.wf a ha) ?_
  rintro _ s1 rfl h1 k1
  conv => whnf
  refine hp.dkN h1 k1 ?_
  clear hp h1 k1
  intro s hp
  conv => whnf
  repeat (first | (refine Br.yes (by first | with_reducible rfl | with_reducible exact beq_self_eq_true _ | rfl) ?_; conv => whnf) | (refine Br.no (by first | with_reducible rfl | with_reducible exact bne_self_eq_false _ | rfl) ?_; conv => whnf))
  refine hp.loadA (l := a.cells) (by repeat (first | exact Has.here | apply Has.there | (apply Has.swap; repeat (first | exact HasR.here | apply HasR.there)))) rfl (by rfl) rfl rfl ?_
  conv => whnf
  repeat (first | (refine Br.yes (by first | with_reducible rfl | with_reducible exact beq_self_eq_true _ | rfl) ?_; conv => whnf) | (refine Br.no (by first | with_reducible rfl | with_reducible exact bne_self_eq_false _ | rfl) ?_; conv => whnf))
  refine hp.rst.call (rsign_spec hp.rst.wf a ha) ?_
  rintro _ s1 rfl h1 k1
  conv => whnf
  refine hp.dkN h1 k1 ?_
  clear hp h1 k1
  intro s hp
  conv => whnf
  repeat (first | (refine Br.yes (by first | with_reducible rfl | with_reducible exact beq_self_eq_true _ | rfl) ?_; conv => whnf) | (refine Br.no (by first | with_reducible rfl | with_reducible exact bne_self_eq_false _ | rfl) ?_; conv => whnf))
  refine hp.loadA (l := a.cells) (by repeat (first | exact Has.here | apply Has.there | (apply Has.swap; repeat (first | exact HasR.here | apply HasR.there)))) rfl (by rfl) rfl rfl ?_
  conv => whnf
  repeat (first | (refine Br.yes (by first | with_reducible rfl | with_reducible exact beq_self_eq_true _ | rfl) ?_; conv => whnf) | (refine Br.no (by first | with_reducible rfl | with_reducible exact bne_self_eq_false _ | rfl) ?_; conv => whnf))
  refine hp.loadA (l := b.cells) (by repeat (first | exact Has.here | apply Has.there | (apply Has.swap; repeat (first | exact HasR.here | apply HasR.there)))) rfl (by rfl) rfl rfl ?_
  conv => whnf
  repeat (first | (refine Br.yes (by first | with_reducible rfl | with_reducible exact beq_self_eq_true _ | rfl) ?_; conv => whnf) | (refine Br.no (by first | with_reducible rfl | with_reducible exact bne_self_eq_false _ | rfl) ?_; conv => whnf))
  refine hp.rst.call (decCmp_spec hp.rst.wf a b ha hb) ?_
  rintro _ s1 rfl h1 k1
  conv => whnf
  refine hp.dkN h1 k1 ?_
  clear hp h1 k1
  intro s hp
  conv => whnf
  repeat (first | (refine Br.yes (by first | with_reducible rfl | with_reducible exact beq_self_eq_true _ | rfl) ?_; conv => whnf) | (refine Br.no (by first | with_reducible rfl | with_reducible exact bne_self_eq_false _ | rfl) ?_; conv => whnf))
  refine hp.loadA (l := a.cells) (by repeat (first | exact Has.here | apply Has.there | (apply Has.swap; repeat (first | exact HasR.here | apply HasR.there)))) rfl (by rfl) rfl rfl ?_
  conv => whnf
  repeat (first | (refine Br.yes (by first | with_reducible rfl | with_reducible exact beq_self_eq_true _ | rfl) ?_; conv => whnf) | (refine Br.no (by first | with_reducible rfl | with_reducible exact bne_self_eq_false _ | rfl) ?_; conv => whnf))
  refine hp.loadA (l := b.cells) (by repeat (first | exact Has.here | apply Has.there | (apply Has.swap; repeat (first | exact HasR.here | apply HasR.there)))) rfl (by rfl) rfl rfl ?_
  conv => whnf
  repeat (first | (refine Br.yes (by first | with_reducible rfl | with_reducible exact beq_self_eq_true _ | rfl) ?_; conv => whnf) | (refine Br.no (by first | with_reducible rfl | with_reducible exact bne_self_eq_false _ | rfl) ?_; conv => whnf))
  refine hp.rst.call (rcmp_spec hp.rst.wf a b ha hb) ?_
  rintro _ s1 rfl h1 k1
  conv => whnf
  refine hp.dkN h1 k1 ?_
  clear hp h1 k1
  intro s hp
  conv => whnf
  repeat (first | (refine Br.yes (by first | with_reducible rfl | with_reducible exact beq_self_eq_true _ | rfl) ?_; conv => whnf) | (refine Br.no (by first | with_reducible rfl | with_reducible exact bne_self_eq_false _ | rfl) ?_; conv => whnf))
  refine hp.loadA (l := a.cells) (by repeat (first | exact Has.here | apply Has.there | (apply Has.swap; repeat (first | exact HasR.here | apply HasR.there)))) rfl (by rfl) rfl rfl ?_
  conv => whnf
  repeat (first | (refine Br.yes (by first | with_reducible rfl | with_reducible exact beq_self_eq_true _ | rfl) ?_; conv => whnf) | (refine Br.no (by first | with_reducible rfl | with_reducible exact bne_self_eq_false _ | rfl) ?_; conv => whnf))
  refine hp.rst.call (print_spec hp.rst.wf a ha) ?_
  rintro _ s1 rfl h1 k1
  conv => whnf
  refine hp.dkN h1 k1 ?_
  clear hp h1 k1
  intro s hp
  conv => whnf
  repeat (first | (refine Br.yes (by first | with_reducible rfl | with_reducible exact beq_self_eq_true _ | rfl) ?_; conv => whnf) | (refine Br.no (by first | with_reducible rfl | with_reducible exact bne_self_eq_false _ | rfl) ?_; conv => whnf))
  refine hp.loadA (l := a.cells) (by repeat (first | exact Has.here | apply Has.there | (apply Has.swap; repeat (first | exact HasR.here | apply HasR.there)))) rfl (by rfl) rfl rfl ?_
  conv => whnf
  repeat (first | (refine Br.yes (by first | with_reducible rfl | with_reducible exact beq_self_eq_true _ | rfl) ?_; conv => whnf) | (refine Br.no (by first | with_reducible rfl | with_reducible exact bne_self_eq_false _ | rfl) ?_; conv => whnf))
  refine hp.rst.call (rprint_spec hp.rst.wf a ha) ?_
  rintro _ s1 rfl h1 k1
  conv => whnf
  refine hp.dkN h1 k1 ?_
  clear hp h1 k1
  intro s hp
  conv => whnf
  repeat (first | (refine Br.yes (by first | with_reducible rfl | with_reducible exact beq_self_eq_true _ | rfl) ?_; conv => whnf) | (refine Br.no (by first | with_reducible rfl | with_reducible exact bne_self_eq_false _ | rfl) ?_; conv => whnf))
  refine Om.of _ (sv_eq (printF a) (printF a)) ?_
  conv => whnf
  rw [beq_self_eq_true]
  repeat (first | (refine Br.yes (by first | with_reducible rfl | with_reducible exact beq_self_eq_true _ | rfl) ?_; conv => whnf) | (refine Br.no (by first | with_reducible rfl | with_reducible exact bne_self_eq_false _ | rfl) ?_; conv => whnf))
  refine hp.rst.call (dof_spec hp.rst.wf hn scale) ?_
  rintro _ s1 rfl h1 k1
  conv => whnf
  refine hp.dkN h1 k1 ?_
  clear hp h1 k1
  intro s hp
  conv => whnf
  repeat (first | (refine Br.yes (by first | with_reducible rfl | with_reducible exact beq_self_eq_true _ | rfl) ?_; conv => whnf) | (refine Br.no (by first | with_reducible rfl | with_reducible exact bne_self_eq_false _ | rfl) ?_; conv => whnf))
  refine hp.rst.call (rof_spec hp.rst.wf hn scale) ?_
  rintro _ s1 rfl h1 k1
  conv => whnf
  refine hp.dkN h1 k1 ?_
  clear hp h1 k1
  intro s hp
  conv => whnf
  repeat (first | (refine Br.yes (by first | with_reducible rfl | with_reducible exact beq_self_eq_true _ | rfl) ?_; conv => whnf) | (refine Br.no (by first | with_reducible rfl | with_reducible exact bne_self_eq_false _ | rfl) ?_; conv => whnf))
  refine Om.of _ (dcv_eq (ofD n scale) _) ?_
  conv => whnf
  repeat (first | (refine Br.yes (by first | with_reducible rfl | with_reducible exact beq_self_eq_true _ | rfl) ?_; conv => whnf) | (refine Br.no (by first | with_reducible rfl | with_reducible exact bne_self_eq_false _ | rfl) ?_; conv => whnf))
  refine hp.rst.call (dof_spec hp.rst.wf hn T) ?_
  rintro _ s1 rfl h1 k1
  conv => whnf
  refine hp.dkN h1 k1 ?_
  clear hp h1 k1
  intro s hp
  conv => whnf
  repeat (first | (refine Br.yes (by first | with_reducible rfl | with_reducible exact beq_self_eq_true _ | rfl) ?_; conv => whnf) | (refine Br.no (by first | with_reducible rfl | with_reducible exact bne_self_eq_false _ | rfl) ?_; conv => whnf))
  refine hp.rst.call (rof_spec hp.rst.wf hn T) ?_
  rintro _ s1 rfl h1 k1
  conv => whnf
  refine hp.dkN h1 k1 ?_
  clear hp h1 k1
  intro s hp
  conv => whnf
  repeat (first | (refine Br.yes (by first | with_reducible rfl | with_reducible exact beq_self_eq_true _ | rfl) ?_; conv => whnf) | (refine Br.no (by first | with_reducible rfl | with_reducible exact bne_self_eq_false _ | rfl) ?_; conv => whnf))
  refine Om.of _ (dcv_eq (ofD n T) _) ?_
  conv => whnf
  repeat (first | (refine Br.yes (by first | with_reducible rfl | with_reducible exact beq_self_eq_true _ | rfl) ?_; conv => whnf) | (refine Br.no (by first | with_reducible rfl | with_reducible exact bne_self_eq_false _ | rfl) ?_; conv => whnf))
  refine Sm.ofW ?_
  conv => whnf
  exact ⟨rfl⟩
end Go.Ev
end
