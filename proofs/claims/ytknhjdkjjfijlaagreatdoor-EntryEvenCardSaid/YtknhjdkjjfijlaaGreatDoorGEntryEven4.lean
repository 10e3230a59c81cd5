/- Several texts in one: what the law's text leans on, one behind the other. No condition but those that each theorem names. -/
import Derived.Test.YtknhjdkjjfijlaaGreatDoorGEntryEven3
/- Raw numbers as lines, walked. No condition. -/
noncomputable section
namespace Go.Ev
open Go.Proofs
variable [Lk]
set_option linter.unusedSectionVars false
set_option linter.unusedVariables false
set_option maxRecDepth 100000

theorem quoI {P : Program} {t : TypeId} {cst : Bool} {a m : Int} (hm : 0 < m) (ha : inR a) : evBin P .quo t cst (.int .i64 a) (.int .i64 m) = some (.int .i64 (a.tdiv m)) := by
  show (match decide (m = 0) with
    | true => none
    | false => some (Value.int .i64 (IntKind.i64.wrap (a.tdiv m)))) = _
  rw [decide_eq_false (by omega)]
  have h : a.tdiv m = IntKind.i64.wrap (a.tdiv m) := by
    obtain ⟨h1, h2⟩ := ha
    have h3 : (a.tdiv m).natAbs ≤ a.natAbs := by rw [Int.natAbs_tdiv]; exact Nat.div_le_self _ _
    refine (wi64 ?_ ?_).symm
    · omega
    · rcases Int.lt_or_le a 0 with g | g
      · have : a.tdiv m ≤ 0 := by
          have h4 : (-a).tdiv m = -(a.tdiv m) := Int.neg_tdiv ..
          have h5 : 0 ≤ (-a).tdiv m := Int.tdiv_nonneg (by omega) (by omega)
          omega
        omega
      · omega
  simp only
  rw [← h]
theorem tdiv_inR {a m : Int} (hm : 0 < m) (ha : inR a) : inR (a.tdiv m) := by
  obtain ⟨h1, h2⟩ := ha
  have h3 : (a.tdiv m).natAbs ≤ a.natAbs := by rw [Int.natAbs_tdiv]; exact Nat.div_le_self _ _
  unfold inR
  refine ⟨by omega, ?_⟩
  rcases Int.lt_or_le a 0 with g | g
  · have h4 : (-a).tdiv m = -(a.tdiv m) := Int.neg_tdiv ..
    have h5 : 0 ≤ (-a).tdiv m := Int.tdiv_nonneg (by omega) (by omega)
    omega
  · omega
theorem rzero_spec {z : St} (wf : WF z) (sc : Int) : Cw Tryz.prog 28 [.int .i64 sc] z fun r s' => K0 z s' ∧ r = (mkD 0 sc).val := by
  have hp : Hp (fun _ => False) z [] [] z := Hp.start _ wf _ (by simp)
  refine Cw.enterS Tryz.func28 rfl rfl ?_
  refine Sm.seqW ?_
  conv => whnf
  refine hp.alloc (cs := Dc.zero.cells) (e := 4) rfl rfl rfl rfl rfl ?_
  clear hp
  intro p2 s hp _
  conv => whnf
  refine Sm.live [0, 2] ?_
  conv => whnf
  refine Sm.seqW ?_
  conv => whnf
  refine hp.storeW (vs := (zeroD sc).cells) ?h1 .here rfl rfl rfl rfl ?_
  case h1 => simp [putAt, zeroD, Dc.cells, Value.cells]
  clear hp
  intro s hp _
  conv => whnf
  refine Sm.live [2] ?_
  conv => whnf
  refine Sm.ofW ?_
  conv => whnf
  refine hp.loadA (l := (zeroD sc).cells) (by repeat (first | exact Has.here | apply Has.there | (apply Has.swap; repeat (first | exact HasR.here | apply HasR.there)))) rfl (by rfl) rfl rfl ?_
  conv => whnf
  exact ⟨hp.fr, rfl⟩
theorem risWith_spec (s : St) (a : Int) : Cw Tryz.prog 46 [.int .i64 a] s fun r s' => s' = s ∧ r = .bool (isWithF a) := by
  refine Cw.enterS Tryz.func46 rfl rfl ?_
  refine Sm.seqW ?_
  conv => whnf
  refine Sm.live [0] ?_
  conv => whnf
  refine Sm.ofW ?_
  conv => whnf
  repeat' (first | (refine Br.yes (by first | with_reducible rfl | with_reducible assumption) ?_; conv => whnf) | (refine Br.no (by first | with_reducible rfl | with_reducible assumption) ?_; conv => whnf) | (refine Br.mk (fun hq => ?_) (fun hq => ?_) <;> conv => whnf))
  all_goals refine ⟨rfl, congrArg Value.bool ?_⟩
  all_goals unfold isWithF
  all_goals (first | assumption | simp_all)
theorem ofD_mk2 {x sc : Int} (h1 : 0 ≤ sc) (h2 : sc ≤ 9) : ofD x sc = mkD x sc := by
  unfold ofD mkD
  have : max 0 (min sc 9) = sc := by omega
  rw [this]
theorem amount_spec {z : St} (wf : WF z) {n sc : Int} (hn : inR n) (g1 : 0 ≤ sc) (g2 : sc ≤ 9) : Cw Tryz.prog 45 [.int .i64 n, .int .i64 sc] z fun r s' => K0 z s' ∧ r = (mkD (n % 2000001 - 1000000) sc).val := by
  have hp : Hp (fun _ => False) z [] [] z := Hp.start _ wf _ (by simp)
  have b1 := Int.emod_nonneg n (show (2000001 : Int) ≠ 0 by decide)
  have b2 := Int.emod_lt_of_pos n (show (0 : Int) < 2000001 by decide)
  refine Cw.enterS Tryz.func45 rfl rfl ?_
  refine Sm.seqW ?_
  conv => whnf
  refine hp.alloc (cs := Dc.zero.cells) (e := 4) rfl rfl rfl rfl rfl ?_
  clear hp
  intro p4 s hp _
  conv => whnf
  refine Sm.live [0, 1, 4] ?_
  conv => whnf
  refine Sm.seqW ?_
  conv => whnf
  refine (pick_spec _ hn (m := 2000001) (by decide) (by decide)).mono ?_
  rintro _ s1 ⟨h1, rfl⟩
  obtain rfl := h1.symm
  conv => whnf
  rw [wi64 (n := n % 2000001 - 1000000) (by omega) (by omega)]
  refine hp.call (rof_spec hp.wf (n := n % 2000001 - 1000000) (by unfold inR; omega) sc) ?_
  clear hp
  rintro _ s rfl hp _
  conv => whnf
  rw [ofD_mk2 g1 g2]
  refine hp.storeW (vs := (mkD (n % 2000001 - 1000000) sc).cells) rfl (by repeat (first | exact Rm.here | apply Rm.there)) (by first | exact C2_same _ _ _ _ | exact C4_same _ _ _ _ _ _ _ _ | exact Dc_same _ _ | rfl) rfl rfl rfl ?_
  clear hp
  intro s hp _
  conv => whnf
  refine Sm.live [4] ?_
  conv => whnf
  refine Sm.ofW ?_
  conv => whnf
  refine hp.loadA (l := (mkD (n % 2000001 - 1000000) sc).cells) (by repeat (first | exact Has.here | apply Has.there | (apply Has.swap; repeat (first | exact HasR.here | apply HasR.there)))) rfl (by rfl) rfl rfl ?_
  conv => whnf
  exact ⟨hp.fr, rfl⟩
theorem index_i {s : St} {κ : Option Nat} {v : Value} {l : List Int} (h : Sl s κ v 1 l.length (l.map (Value.int .i64))) (k : IntKind) {i : Nat} (hi : i < l.length) :
    ∃ a, evIndexAddr Tryz.prog 22 v (.int k (i : Int)) = some (.pointer (some a)) ∧ evLoad Tryz.prog 3 (.pointer (some a)) s = some (.int .i64 l[i]) := by
  obtain ⟨p, y, e1, e2, e3, a, rfl⟩ := index_sl IL Tryz.underlying3 rfl h k hi
  rw [List.getElem?_map, List.getElem?_eq_getElem hi] at e2
  injection e2 with e2
  subst e2
  exact ⟨a, e1, e3⟩
/-- What the lines of raw numbers may be. -/
structure LinesAns (z : St) (l : List Int) (sc bend ents : Int) (r : Value) (s' : St) : Prop where
  ex : ∃ ls : List Ln, ∃ κ, Sln s' κ r ls ∧ (∀ k, κ = some k → z.next ≤ k) ∧ 1 ≤ ls.length ∧ ls.length ≤ 9 ∧ (∀ x ∈ ls, MemLn x) ∧ (bend = 0 → ls = lines1 (linesL sc ents 6 l) sc ∧ OwnN z.next s' r 6 ls.length (lnC ls))
theorem linesL_nil (sc ents : Int) {n : Nat} {l : List Int} (h : n = 0 ∨ l.length < 2) : linesL sc ents n l = [] := by
  match n, l with
  | 0, _ => unfold linesL; rfl
  | n + 1, [] => simp [linesL]
  | n + 1, [a] => simp [linesL]
  | n + 1, a :: b :: r => simp only [List.length_cons] at h; omega
theorem putAt_mid (A B C vs : List Value) (off : Nat) (h : off + vs.length ≤ B.length) : putAt (A ++ (B ++ C)) (A.length + off) vs = A ++ (putAt B off vs ++ C) := by
  unfold putAt
  rw [List.take_length_add_append, Nat.add_assoc, List.drop_length_add_append, List.take_append_of_le_length (by omega), List.drop_append_of_le_length h]
  simp only [List.append_assoc]
theorem lnC_put {ls : List Ln} {k off : Nat} {vs : List Value} {y : Ln} (hk : k < ls.length) (hy : putAt ls[k].cells off vs = y.cells) (ho : off + vs.length ≤ 6) : putAt (lnC ls) (k * 6 + off) vs = lnC (ls.set k y) := by
  have h1 : ls = ls.take k ++ ls[k] :: ls.drop (k + 1) := by rw [← List.drop_eq_getElem_cons hk, List.take_append_drop]
  have h2 : ls.set k y = ls.take k ++ y :: ls.drop (k + 1) := by rw [List.set_eq_take_append_cons_drop, if_pos hk]
  have h3 : lnC ls = lnC (ls.take k) ++ (ls[k].cells ++ lnC (ls.drop (k + 1))) := by
    conv => lhs; rw [h1]
    rw [lnC_app, lnC_cons]
  have hl : (lnC (ls.take k)).length = k * 6 := by rw [lnC_len, List.length_take]; omega
  have hl6 : ls[k].cells.length = 6 := rfl
  rw [h2, h3, lnC_app, lnC_cons, ← hy, ← hl]
  exact putAt_mid _ _ _ _ _ (by omega)
theorem lnC_set {ls : List Ln} {k j : Nat} {v : Value} {y : Ln} (hk : k < ls.length) (hj : j < 6) (hy : ls[k].cells.set j v = y.cells) : (lnC ls).set (k * 6 + j) v = lnC (ls.set k y) := by
  have hl6 : ls[k].cells.length = 6 := rfl
  rw [← putAt_one v (by rw [lnC_len]; omega)]
  exact lnC_put hk (by rw [putAt_one v (by omega)]; exact hy) (by simp; omega)
theorem lnC_sl {ls : List Ln} {k : Nat} (hk : k < ls.length) : Go.Ev.sl (lnC ls) (k * 6 + 1) 4 = some ls[k].amt.cells := by
  have h : Go.Ev.sl (lnC ls) (k * 6) 6 = some ls[k].cells := by
    unfold Go.Ev.sl
    have e := lnC_at hk
    simp only [e]
    have : ls[k].cells.length = 6 := rfl
    rw [this]
  have := sl_sub (i := 1) (m := 4) h (by decide)
  exact this
theorem ans_own {z s' : St} {l : List Int} {sc bend ents : Int} {r : Value} {ls : List Ln} (h : OwnN z.next s' r 6 ls.length (lnC ls)) (h1 : 1 ≤ ls.length) (h9 : ls.length ≤ 9) (hm : ∀ x ∈ ls, MemLn x) (hb : bend = 0 → ls = lines1 (linesL sc ents 6 l) sc) : LinesAns z l sc bend ents r s' := by
  obtain ⟨κ, g1, g2⟩ := h.sl
  exact ⟨ls, κ, g1, g2, h1, h9, hm, fun e => ⟨hb e, h⟩⟩
theorem GoodLn.mem {sc ents : Int} {x : Ln} (h : GoodLn sc ents x) (he : ents ≤ 8) : MemLn x := by
  obtain ⟨y, g1, g2, g3⟩ := h.amt
  have ha := h.acct
  have hw := h.wth
  refine ⟨by omega, ?_, by rw [g3]; show y.natAbs < w128; simp only [w128]; omega⟩
  split at hw <;> omega
theorem mem_set {α : Type} {l : List α} {k : Nat} {y x : α} (h : x ∈ l.set k y) : x = y ∨ x ∈ l := by
  rcases List.mem_or_eq_of_mem_set h with g | g
  · exact .inr g
  · exact .inl g
theorem hlines_spec {z : St} (wf : WF z) {v : Value} {l : List Int} (hv : Sl z none v 1 l.length (l.map (Value.int .i64))) (hl : l.length ≤ 140737488351232) (hln : ∀ n ∈ l, inR n) {sc bend ents : Int} (sc1 : 0 ≤ sc) (sc2 : sc ≤ 9) (hb : inR bend) (en1 : 0 ≤ ents) (en2 : ents ≤ 8) :
    Cw Tryz.prog 13 [v, .int .i64 sc, .int .i64 bend, .int .i64 ents] z fun r s' => K0 z s' ∧ LinesAns z l sc bend ents r s' := by
  obtain ⟨a, cp, rfl⟩ := hv.shape
  have hp : Hp (fun _ => False) z [slA none (.slice a l.length cp) 1 l.length (l.map (Value.int .i64))] [] z := Hp.start _ wf _ (by simp; exact hv)
  refine Cw.enterS Tryz.func13 rfl rfl ?_
  refine Sm.seqW ?_
  conv => whnf
  refine Sm.live [0, 1, 2, 3] ?_
  conv => whnf
  refine Sm.seqW ?_
  conv => whnf
  refine Sm.live [0, 1, 2, 3, 9] ?_
  conv => whnf
  refine Sm.seqW ?_
  conv => whnf
  refine hp.call (rzero_spec hp.wf sc) ?_
  clear hp
  rintro _ s rfl hp _
  conv => whnf
  refine hp.alloc (cs := Dc.zero.cells) (e := 4) rfl rfl rfl rfl rfl ?_
  clear hp
  intro p10 s hp _
  conv => whnf
  refine hp.storeW (vs := (mkD 0 sc).cells) rfl (by repeat (first | exact Rm.here | apply Rm.there)) (by first | exact C2_same _ _ _ _ | exact C4_same _ _ _ _ _ _ _ _ | exact Dc_same _ _ | rfl) rfl rfl rfl ?_
  clear hp
  intro s hp _
  conv => whnf
  refine Sm.live [0, 1, 2, 3, 9, 10] ?_
  conv => whnf
  refine Sm.seq ?_
  refine Sm.seqW ?_
  conv => whnf
  refine Sm.live [0, 1, 2, 3, 9, 10, 11] ?_
  conv => whnf
  refine Sm.block ?_
  refine Sm.loop ?_
  refine Lp.ofS (α := Nat × List Ln × Option Nat × Value) (fun x => [(0, .slice a l.length cp), (1, .int .i64 sc), (2, .int .i64 bend), (3, .int .i64 ents), (9, x.2.2.2), (10, .pointer (some ⟨p10, 0, none⟩)), (11, .int .i64 ((2 * x.1 : Nat) : Int))])
    (fun x s' => x.1 ≤ 6 ∧ x.2.1.length = x.1 ∧ linesL sc ents 6 l = x.2.1 ++ linesL sc ents (6 - x.1) (l.drop (2 * x.1)) ∧ 2 * x.1 ≤ l.length ∧ Hp (fun _ => False) z [slA none (.slice a l.length cp) 1 l.length (l.map (Value.int .i64))] [blkA p10 p10 (mkD (sumZ x.2.1) sc).cells 4, onA x.2.2.1 x.2.2.2 6 x.2.1.length (lnC x.2.1)] s') (fun x => 6 - x.1) ?_ (0, [], none, .slice none 0 0) (subK_ok (by refine ⟨rfl, rfl, rfl, rfl, rfl, rfl, rfl, trivial⟩)) ⟨by decide, rfl, rfl, Nat.zero_le _, (hp.nilA 6).pik (by repeat (first | exact Pik.nil | exact Pik.refl _ | exact Rm.here | apply Rm.there | apply Pik.cons | apply Pik.skip))⟩
  clear hp
  rintro ⟨j, out, κo, vo⟩ s ⟨hj, ho, heq, hjl, hp⟩
  simp only at hj ho heq hjl hp
  refine Sm.seq ?_
  refine Sm.seqC (fun e' L' s' => e' = .normal ∧ s' = s ∧ Sub [(0, .slice a l.length cp), (1, .int .i64 sc), (2, .int .i64 bend), (3, .int .i64 ents), (9, vo), (10, .pointer (some ⟨p10, 0, none⟩)), (11, .int .i64 ((2 * j : Nat) : Int)), (25, .bool (decide (2 * j + 1 < l.length ∧ j < 6)))] L') ?_ ?_
  · conv => whnf
    have ei : IntKind.i64.wrap (((2 * j : Nat) : Int) + 1) = ((2 * j + 1 : Nat) : Int) := by rw [wi64 (by omega) (by omega)]; omega
    by_cases h1 : 2 * j + 1 < l.length
    · have q1 : decide (IntKind.i64.wrap (((2 * j : Nat) : Int) + 1) < ((l.length : Nat) : Int)) = true := decide_eq_true (by rw [ei]; omega)
      repeat (first | (refine Br.yes q1 ?_; conv => whnf) | (first | (refine Br.yes (by first | with_reducible rfl | with_reducible exact beq_self_eq_true _ | rfl) ?_; conv => whnf) | (refine Br.no (by first | with_reducible rfl | with_reducible exact bne_self_eq_false _ | rfl) ?_; conv => whnf)))
      exact ⟨rfl, rfl, subK_ok ⟨rfl, rfl, rfl, rfl, rfl, rfl, rfl, congrArg (fun x => some (Value.bool x)) (decide_eq_decide.2 ⟨fun h => ⟨h1, by omega⟩, fun h => by omega⟩), trivial⟩⟩
    · have q1 : decide (IntKind.i64.wrap (((2 * j : Nat) : Int) + 1) < ((l.length : Nat) : Int)) = false := decide_eq_false (by rw [ei]; omega)
      repeat (first | (refine Br.no q1 ?_; conv => whnf) | (first | (refine Br.yes (by first | with_reducible rfl | with_reducible exact beq_self_eq_true _ | rfl) ?_; conv => whnf) | (refine Br.no (by first | with_reducible rfl | with_reducible exact bne_self_eq_false _ | rfl) ?_; conv => whnf)))
      exact ⟨rfl, rfl, subK_ok ⟨rfl, rfl, rfl, rfl, rfl, rfl, rfl, congrArg (fun x => some (Value.bool x)) (decide_eq_false (fun h => h1 h.1)).symm, trivial⟩⟩
  rintro e L' s' ⟨rfl, rfl, hs⟩
  refine Sm.weak _ hs ?_
  clear hs
  refine Sm.ofW ?_
  conv => whnf
  by_cases hc : 2 * j + 1 < l.length ∧ j < 6
  · refine Br.yes (decide_eq_true hc) ?_
    obtain ⟨hc1, hc2⟩ := hc
    obtain ⟨m, hm⟩ : ∃ m, 6 - j = m + 1 := ⟨5 - j, by omega⟩
    have hd : l.drop (2 * j) = l[2 * j] :: l[2 * j + 1] :: l.drop (2 * (j + 1)) := by
      rw [List.drop_eq_getElem_cons (by omega), List.drop_eq_getElem_cons hc1]; rfl
    rw [hm, hd, linesL] at heq
    have hA := hln _ (List.getElem_mem (show 2 * j < l.length by omega))
    have hB := hln _ (List.getElem_mem hc1)
    obtain ⟨f1, f2, f3⟩ := index_i (hp.slR (κ := none) (v := .slice a l.length cp) .here) .i64 (show 2 * j < l.length by omega)
    obtain ⟨f4, f5, f6⟩ := index_i (hp.slR (κ := none) (v := .slice a l.length cp) .here) .i64 hc1
    have ei : IntKind.i64.wrap (((2 * j : Nat) : Int) + 1) = ((2 * j + 1 : Nat) : Int) := by rw [wi64 (by omega) (by omega)]; omega
    generalize hAd : l[2 * j] = A at *
    generalize hBd : l[2 * j + 1] = B at *
    conv => whnf
    refine Sm.seq ?_
    refine Sm.block ?_
    refine Sm.seqW ?_
    conv => whnf
    refine ⟨[0, 0, 3, 7, 15, 0, 0, 64, 224, 480, 0, 2047, 4095, 0, 16383], by decide +kernel, by decide +kernel, ?_⟩
    conv => whnf
    refine Om.of _ (f2) ?_
    conv => whnf
    refine Om.of _ (f3) ?_
    conv => whnf
    refine (pick_spec _ hA (m := 16) (by decide) (by decide)).mono ?_
    rintro _ s1 ⟨h1, rfl⟩
    obtain rfl := h1.symm
    conv => whnf
    refine hp.dkS ?_
    conv => whnf
    rw [ei]
    refine Om.of _ (f5) ?_
    conv => whnf
    refine Om.of _ (f6) ?_
    conv => whnf
    refine hp.rst.call (amount_spec hp.rst.wf hB sc1 sc2) ?_
    rintro _ s1 rfl h1 k1
    conv => whnf
    refine hp.dkN h1 k1 ?_
    clear hp h1 k1
    intro s hp
    conv => whnf
    refine hp.rst.alloc (cs := Ln.zero.cells) (e := 6) rfl rfl rfl rfl rfl ?_
    intro p12 s1 h1 k1
    conv => whnf
    refine hp.dkN h1 k1 ?_
    clear hp h1 k1
    intro s hp
    conv => whnf
    refine hp.rst.storeW (vs := (Ln.mk (A % 16) (mkD (B % 2000001 - 1000000) sc) (-1)).cells) rfl (by repeat (first | exact Rm.here | apply Rm.there)) (by first | exact C2_same _ _ _ _ | exact C4_same _ _ _ _ _ _ _ _ | exact Dc_same _ _ | rfl) rfl rfl rfl ?_
    intro s1 h1 l1
    conv => whnf
    refine hp.dkW h1 l1 ?_
    clear hp h1 l1
    intro s hp
    conv => whnf
    refine Sm.live [0, 1, 2, 3, 9, 10, 11, 12] ?_
    conv => whnf
    have y1 := Int.emod_nonneg B (show (2000001 : Int) ≠ 0 by decide)
    have y2 := Int.emod_lt_of_pos B (show (0 : Int) < 2000001 by decide)
    obtain ⟨y, hy⟩ : ∃ y, y = B % 2000001 - 1000000 := ⟨_, rfl⟩
    rw [← hy] at hp
    have hyb : y.natAbs ≤ 1000000 := by omega
    have hamt : amtY B = if y = 0 then 1 else y := by unfold amtY; rw [← hy]
    obtain ⟨w, hw⟩ : ∃ w, w = (if isWithF (A % 16) = true then (Int.tdiv A 16) % (max 1 ents) else -1) := ⟨_, rfl⟩
    have hmx : (if ents > 1 then ents else 1) = max 1 ents := by split <;> omega
    refine Sm.seqC (fun e' L' s' => e' = .normal ∧ Hp (fun _ => False) z [slA none (.slice a l.length cp) 1 l.length (l.map (Value.int .i64))] [blkA p12 p12 (Ln.mk (A % 16) (mkD y sc) w).cells 6, blkA p10 p10 (mkD (sumZ out) sc).cells 4, onA κo vo 6 out.length (lnC out)] s' ∧ Sub [(0, .slice a l.length cp), (1, .int .i64 sc), (2, .int .i64 bend), (3, .int .i64 ents), (9, vo), (10, .pointer (some ⟨p10, 0, none⟩)), (11, .int .i64 ((2 * j : Nat) : Int)), (12, .pointer (some ⟨p12, 0, none⟩))] L') ?_ ?_
    · conv => whnf
      refine hp.load (v := .int .i64 (A % 16)) (by repeat (first | exact Has.here | apply Has.there | (apply Has.swap; repeat (first | exact HasR.here | apply HasR.there)))) (by rfl) rfl rfl rfl ?_
      conv => whnf
      refine (risWith_spec _ (A % 16)).mono ?_
      rintro _ s1 ⟨h1, rfl⟩
      obtain rfl := h1.symm
      conv => whnf
      cases hq : isWithF (A % 16) with
      | true =>
        rw [if_pos hq] at hw
        repeat (first | (refine Br.yes (by first | with_reducible rfl | with_reducible exact beq_self_eq_true _ | rfl) ?_; conv => whnf) | (refine Br.no (by first | with_reducible rfl | with_reducible exact bne_self_eq_false _ | rfl) ?_; conv => whnf))
        obtain ⟨f1, f2, f3⟩ := index_i (hp.slR (κ := none) (v := .slice a l.length cp) .here) .i64 (show 2 * j < l.length by omega)
        rw [hAd] at f3
        refine Om.of _ (f2) ?_
        conv => whnf
        refine Om.of _ (f3) ?_
        conv => whnf
        refine Om.of _ (quoI (m := 16) (by decide) hA) ?_
        conv => whnf
        refine (pick_spec _ (tdiv_inR (m := 16) (by decide) hA) (m := if ents > 1 then ents else 1) (by rw [hmx]; omega) (by rw [hmx]; omega)).mono ?_
        rintro _ s1 ⟨h1, rfl⟩
        obtain rfl := h1.symm
        conv => whnf
        rw [hmx, ← hw]
        refine hp.store (off := 5) (by repeat (first | exact Rm.here | apply Rm.there)) (by show 5 < 6; decide) rfl rfl rfl rfl ?_
        clear hp
        intro s hp _
        conv => whnf
        exact ⟨rfl, hp, subK_ok ⟨rfl, rfl, rfl, rfl, rfl, rfl, rfl, rfl, trivial⟩⟩
      | false =>
        rw [if_neg (by rw [hq]; decide)] at hw
        repeat (first | (refine Br.yes (by first | with_reducible rfl | with_reducible exact beq_self_eq_true _ | rfl) ?_; conv => whnf) | (refine Br.no (by first | with_reducible rfl | with_reducible exact bne_self_eq_false _ | rfl) ?_; conv => whnf))
        rw [hw]
        exact ⟨rfl, hp, subK_ok ⟨rfl, rfl, rfl, rfl, rfl, rfl, rfl, rfl, trivial⟩⟩
    clear hp
    rintro e' L' s ⟨rfl, hp, hs⟩
    refine Sm.weak _ hs ?_
    clear hs
    have hln2 : lnOf A B sc ents = Ln.mk (A % 16) (mkD (amtY B) sc) w := by unfold lnOf; rw [← hw]
    refine Sm.seqC (fun e' L' s' => e' = .normal ∧ Hp (fun _ => False) z [slA none (.slice a l.length cp) 1 l.length (l.map (Value.int .i64))] [blkA p12 p12 (lnOf A B sc ents).cells 6, blkA p10 p10 (mkD (sumZ out) sc).cells 4, onA κo vo 6 out.length (lnC out)] s' ∧ Sub [(0, .slice a l.length cp), (1, .int .i64 sc), (2, .int .i64 bend), (3, .int .i64 ents), (9, vo), (10, .pointer (some ⟨p10, 0, none⟩)), (11, .int .i64 ((2 * j : Nat) : Int)), (12, .pointer (some ⟨p12, 0, none⟩))] L') ?_ ?_
    · conv => whnf
      rw [hln2]
      refine hp.loadA (l := (mkD y sc).cells) (by repeat (first | exact Has.here | apply Has.there | (apply Has.swap; repeat (first | exact HasR.here | apply HasR.there)))) rfl (by rfl) rfl rfl ?_
      conv => whnf
      refine hp.call (rsign_spec hp.wf (mkD y sc) (by show y.natAbs < w128; simp only [w128]; omega)) ?_
      clear hp
      rintro _ s rfl hp _
      conv => whnf
      have hsg := sign_mk (x := y) (S := sc) (by omega) sc1 sc2
      by_cases h0 : y = 0
      · rw [if_pos h0] at hamt
        refine Br.yes (beq_iff_eq.2 (hsg.2 h0)) ?_
        conv => whnf
        refine hp.call (rof_spec hp.wf (n := 1) (by unfold inR; decide) sc) ?_
        clear hp
        rintro _ s rfl hp _
        conv => whnf
        rw [ofD_mk2 sc1 sc2]
        refine hp.storeA (off := 1) (vs := (mkD 1 sc).cells) rfl (by repeat (first | exact Rm.here | apply Rm.there)) (by show 1 + 4 ≤ 6; decide) rfl rfl rfl ?_
        clear hp
        intro s hp _
        rw [hamt]
        conv => whnf
        exact ⟨rfl, hp, subK_ok ⟨rfl, rfl, rfl, rfl, rfl, rfl, rfl, rfl, trivial⟩⟩
      · rw [if_neg h0] at hamt
        refine Br.no (beq_eq_false_iff_ne.2 (fun h => h0 (hsg.1 h))) ?_
        conv => whnf
        rw [hamt]
        exact ⟨rfl, hp, subK_ok ⟨rfl, rfl, rfl, rfl, rfl, rfl, rfl, rfl, trivial⟩⟩
    clear hp
    rintro e' L' s ⟨rfl, hp, hs⟩
    refine Sm.weak _ hs ?_
    clear hs
    have hx : valI (lnOf A B sc ents).amt = amtY B := by rw [hln2]; exact val_mkD _ _
    have hxa : (lnOf A B sc ents).amt = mkD (amtY B) sc := by rw [hln2]
    have hab := (amtY_b B).2
    have hsb : (sumZ out).natAbs ≤ 6 * 1000000 := by
      have h1 := sumZ_b (M := 1000000) out fun x hx => by
        obtain ⟨p, q, rfl⟩ := linesL_good sc ents 6 l x (by rw [heq]; simp [hx])
        show (valI (mkD (amtY q) sc)).natAbs ≤ _
        rw [val_mkD]; exact (amtY_b q).2
      exact Nat.le_trans h1 (Nat.mul_le_mul_right _ (by rw [ho]; exact Nat.le_of_lt hc2))
    generalize hX : lnOf A B sc ents = x at *
    refine Sm.seqW ?_
    conv => whnf
    refine hp.loadA (l := x.cells) (by repeat (first | exact Has.here | apply Has.there | (apply Has.swap; repeat (first | exact HasR.here | apply HasR.there)))) rfl (by rfl) rfl rfl ?_
    conv => whnf
    refine hp.lit (cs := x.cells) (e := 6) (by rfl) ?_
    clear hp
    intro b4 s4 hp _
    conv => whnf
    have x4 := hp.blkSl (n := 1) (C := x.cells) (k := b4) (b := b4) (e := 6) (by repeat (first | exact Has.here | apply Has.there | (apply Has.swap; repeat (first | exact HasR.here | apply HasR.there)))) rfl
    refine hp.app LT Tryz.underlying24 rfl (κ := κo) (v := vo) (by repeat (first | exact Rm.here | apply Rm.there)) (elems_sl x4) rfl rfl (by omega) ?_
    clear hp x4
    intro v5 κ5 s hp
    rw [← lnC_snoc, show out.length + 1 = (out ++ [x]).length by simp] at hp
    conv => whnf
    refine Sm.live [0, 1, 2, 3, 9, 10, 11, 12] ?_
    conv => whnf
    refine Sm.ofW ?_
    conv => whnf
    refine hp.loadA (l := (mkD (sumZ out) sc).cells) (by repeat (first | exact Has.here | apply Has.there | (apply Has.swap; repeat (first | exact HasR.here | apply HasR.there)))) rfl (by rfl) rfl rfl ?_
    conv => whnf
    refine hp.loadA (l := x.amt.cells) (by repeat (first | exact Has.here | apply Has.there | (apply Has.swap; repeat (first | exact HasR.here | apply HasR.there)))) rfl (by rfl) rfl rfl ?_
    conv => whnf
    have hxv : (Value.agg x.amt.cells.toArray) = (mkD (amtY B) sc).val := by rw [hxa]; rfl
    rw [hxv]
    refine hp.call (radd_spec hp.wf (mkD (sumZ out) sc) (mkD (amtY B) sc) (by show (sumZ out).natAbs < w128; simp only [w128]; omega) (by show (amtY B).natAbs < w128; simp only [w128]; omega)) ?_
    clear hp
    rintro _ s rfl hp _
    conv => whnf
    rw [addF_D, addD_mkD (by omega) (by omega) sc1 sc2]
    have hsum : sumZ out + amtY B = sumZ (out ++ [x]) := by rw [sumZ_app, sumZ_cons, sumZ_nil, hx]; omega
    rw [hsum]
    conv => whnf
    refine hp.storeW (vs := (mkD (sumZ (out ++ [x])) sc).cells) rfl (by repeat (first | exact Rm.here | apply Rm.there)) (by first | exact C2_same _ _ _ _ | exact C4_same _ _ _ _ _ _ _ _ | exact Dc_same _ _ | rfl) rfl rfl rfl ?_
    clear hp
    intro s hp _
    conv => whnf
    refine Sm.ofW ?_
    conv => whnf
    exact ⟨(j + 1, out ++ [x], κ5, v5), by (show 6 - (j + 1) < 6 - j); omega, subK_ok (by refine ⟨rfl, rfl, rfl, rfl, rfl, rfl, congrArg (fun x => some (Value.int .i64 x)) (show IntKind.i64.wrap (((2 * j : Nat) : Int) + 2) = ((2 * (j + 1) : Nat) : Int) by rw [wi64 (by omega) (by omega)]; omega), trivial⟩), by (show j + 1 ≤ 6); omega, by (show (out ++ [x]).length = j + 1); simp; omega, by
      show linesL sc ents 6 l = (out ++ [x]) ++ linesL sc ents (6 - (j + 1)) (l.drop (2 * (j + 1)))
      rw [heq, show 6 - (j + 1) = m by omega]; simp, by (show 2 * (j + 1) ≤ l.length); omega, hp.pik (by repeat (first | exact Pik.nil | exact Pik.refl _ | exact Rm.here | apply Rm.there | apply Pik.cons | apply Pik.skip))⟩
  · refine Br.no (decide_eq_false hc) ?_
    have hend : linesL sc ents 6 l = out := by
      rw [heq, linesL_nil sc ents (by rw [List.length_drop]; omega), List.append_nil]
    have hev := lines_even sc ents l
    rw [hend] at hev
    have hsb : (sumZ out).natAbs < 10 ^ 9 := by
      have h1 := linesL_sum sc ents (Nat.le_refl 6) l
      rw [hend] at h1
      exact Nat.lt_of_le_of_lt h1 (by decide)
    clear heq
    conv => whnf
    obtain ⟨ao, co, rfl⟩ := (hp.slF (κ := κo) (v := vo) (by repeat (first | exact Rm.here | apply Rm.there))).shape
    refine Sm.seqC (fun e' L' s' => e' = .normal ∧ ∃ κ5 v5, Hp (fun _ => False) z [slA none (.slice a l.length cp) 1 l.length (l.map (Value.int .i64))] [onA κ5 v5 6 (lines1 out sc).length (lnC (lines1 out sc))] s' ∧ Sub [(2, .int .i64 bend), (9, v5)] L') ?_ ?_
    · conv => whnf
      refine hp.loadA (l := (mkD (sumZ out) sc).cells) (by repeat (first | exact Has.here | apply Has.there | (apply Has.swap; repeat (first | exact HasR.here | apply HasR.there)))) rfl (by rfl) rfl rfl ?_
      conv => whnf
      refine hp.call (rsign_spec hp.wf (mkD (sumZ out) sc) (by show (sumZ out).natAbs < w128; simp only [w128]; omega)) ?_
      clear hp
      rintro _ s rfl hp _
      conv => whnf
      have hsg := sign_mk (x := sumZ out) (S := sc) (by omega) sc1 sc2
      unfold lines1
      by_cases ho0 : out = []
      · subst ho0
        have q : (!(signF (mkD (sumZ []) sc) == 0)) = false := by rw [beq_iff_eq.2 (hsg.2 rfl)]; rfl
        repeat (first | (refine Br.no q ?_; conv => whnf) | (first | (refine Br.yes (by first | with_reducible rfl | with_reducible exact beq_self_eq_true _ | rfl) ?_; conv => whnf) | (refine Br.no (by first | with_reducible rfl | with_reducible exact bne_self_eq_false _ | rfl) ?_; conv => whnf)))
        refine hp.loadA (l := (mkD 0 sc).cells) (by repeat (first | exact Has.here | apply Has.there | (apply Has.swap; repeat (first | exact HasR.here | apply HasR.there)))) rfl (by rfl) rfl rfl ?_
        conv => whnf
        have hneg : negF (mkD 0 sc) = mkD 0 sc := by rw [neg_mk (by decide) sc1 sc2]; rfl
        refine hp.call (rneg_spec hp.wf (mkD 0 sc) (by show 0 < w128; decide)) ?_
        clear hp
        rintro _ s rfl hp _
        conv => whnf
        rw [hneg]
        refine hp.alloc (cs := Ln.zero.cells) (e := 6) rfl rfl rfl rfl rfl ?_
        clear hp
        intro p13 s hp _
        conv => whnf
        refine hp.storeW (vs := (Ln.mk 0 (mkD 0 sc) (-1)).cells) rfl (by repeat (first | exact Rm.here | apply Rm.there)) (by first | exact C2_same _ _ _ _ | exact C4_same _ _ _ _ _ _ _ _ | exact Dc_same _ _ | rfl) rfl rfl rfl ?_
        clear hp
        intro s hp _
        conv => whnf
        repeat (first | (refine Br.yes (by first | with_reducible rfl | with_reducible exact beq_self_eq_true _ | rfl) ?_; conv => whnf) | (refine Br.no (by first | with_reducible rfl | with_reducible exact bne_self_eq_false _ | rfl) ?_; conv => whnf))
        refine hp.call (rof_spec hp.wf (n := 5) (by unfold inR; decide) sc) ?_
        clear hp
        rintro _ s rfl hp _
        conv => whnf
        rw [ofD_mk2 sc1 sc2]
        refine hp.storeA (off := 1) (vs := (mkD 5 sc).cells) rfl (by repeat (first | exact Rm.here | apply Rm.there)) (by show 1 + 4 ≤ 6; decide) rfl rfl rfl ?_
        clear hp
        intro s hp _
        replace hp : Hp (fun _ => False) z [slA none (.slice a l.length cp) 1 l.length (l.map (Value.int .i64))] [blkA p13 p13 (Ln.mk 0 (mkD 5 sc) (-1)).cells 6, blkA p10 p10 (mkD 0 sc).cells 4, onA κo (.slice ao 0 co) 6 0 (lnC [])] s := hp
        conv => whnf
        refine hp.call (rof_spec hp.wf (n := -5) (by unfold inR; decide) sc) ?_
        clear hp
        rintro _ s rfl hp _
        conv => whnf
        rw [ofD_mk2 sc1 sc2]
        refine hp.lit (cs := (Ln.mk 8 (mkD (-5) sc) (-1)).cells) (e := 6) (by rfl) ?_
        clear hp
        intro b4 s4 hp _
        conv => whnf
        have x4 := hp.blkSl (n := 1) (C := (Ln.mk 8 (mkD (-5) sc) (-1)).cells) (k := b4) (b := b4) (e := 6) (by repeat (first | exact Has.here | apply Has.there | (apply Has.swap; repeat (first | exact HasR.here | apply HasR.there)))) rfl
        refine hp.app LT Tryz.underlying24 rfl (κ := κo) (v := .slice ao 0 co) (by repeat (first | exact Rm.here | apply Rm.there)) (elems_sl x4) rfl rfl (by omega) ?_
        clear hp x4
        intro v5 κ5 s hp
        rw [← lnC_snoc] at hp
        conv => whnf
        refine hp.loadA (l := (Ln.mk 0 (mkD 5 sc) (-1)).cells) (by repeat (first | exact Has.here | apply Has.there | (apply Has.swap; repeat (first | exact HasR.here | apply HasR.there)))) rfl (by rfl) rfl rfl ?_
        conv => whnf
        refine hp.lit (cs := (Ln.mk 0 (mkD 5 sc) (-1)).cells) (e := 6) (by rfl) ?_
        clear hp
        intro b6 s6 hp _
        conv => whnf
        have x4 := hp.blkSl (n := 1) (C := (Ln.mk 0 (mkD 5 sc) (-1)).cells) (k := b6) (b := b6) (e := 6) (by repeat (first | exact Has.here | apply Has.there | (apply Has.swap; repeat (first | exact HasR.here | apply HasR.there)))) rfl
        refine hp.app LT Tryz.underlying24 rfl (κ := κ5) (v := v5) (by repeat (first | exact Rm.here | apply Rm.there)) (elems_sl x4) rfl rfl (by omega) ?_
        clear hp x4
        intro v7 κ7 s hp
        rw [← lnC_snoc] at hp
        conv => whnf
        rw [if_pos (.inr rfl), if_pos rfl]
        exact ⟨rfl, κ7, v7, hp.pik (by repeat (first | exact Pik.nil | exact Pik.refl _ | exact Rm.here | apply Rm.there | apply Pik.cons | apply Pik.skip)), subK_ok ⟨rfl, rfl, trivial⟩⟩
      · have hlen : 0 < out.length := List.length_pos_iff.2 ho0
        have q1 : (((out.length : Nat) : Int) == 0) = false := beq_eq_false_iff_ne.2 (by omega)
        by_cases hs0 : sumZ out = 0
        · have q : (!(signF (mkD (sumZ out) sc) == 0)) = false := by rw [beq_iff_eq.2 (hsg.2 hs0)]; rfl
          repeat (first | (refine Br.no q ?_; conv => whnf) | (refine Br.no q1 ?_; conv => whnf) | (first | (refine Br.yes (by first | with_reducible rfl | with_reducible exact beq_self_eq_true _ | rfl) ?_; conv => whnf) | (refine Br.no (by first | with_reducible rfl | with_reducible exact bne_self_eq_false _ | rfl) ?_; conv => whnf)))
          rw [if_neg (fun h => by rcases h with h | h; exact h hs0; exact ho0 h)]
          exact ⟨rfl, κo, _, hp.pik (by repeat (first | exact Pik.nil | exact Pik.refl _ | exact Rm.here | apply Rm.there | apply Pik.cons | apply Pik.skip)), subK_ok ⟨rfl, rfl, trivial⟩⟩
        · have q : (!(signF (mkD (sumZ out) sc) == 0)) = true := by rw [beq_eq_false_iff_ne.2 (fun h => hs0 (hsg.1 h))]; rfl
          repeat (first | (refine Br.yes q ?_; conv => whnf) | (first | (refine Br.yes (by first | with_reducible rfl | with_reducible exact beq_self_eq_true _ | rfl) ?_; conv => whnf) | (refine Br.no (by first | with_reducible rfl | with_reducible exact bne_self_eq_false _ | rfl) ?_; conv => whnf)))
          refine hp.loadA (l := (mkD (sumZ out) sc).cells) (by repeat (first | exact Has.here | apply Has.there | (apply Has.swap; repeat (first | exact HasR.here | apply HasR.there)))) rfl (by rfl) rfl rfl ?_
          conv => whnf
          refine hp.call (rneg_spec hp.wf (mkD (sumZ out) sc) (by show (sumZ out).natAbs < w128; simp only [w128]; omega)) ?_
          clear hp
          rintro _ s rfl hp _
          conv => whnf
          rw [neg_mk (by omega) sc1 sc2]
          refine hp.alloc (cs := Ln.zero.cells) (e := 6) rfl rfl rfl rfl rfl ?_
          clear hp
          intro p13 s hp _
          conv => whnf
          refine hp.storeW (vs := (Ln.mk 0 (mkD (-(sumZ out)) sc) (-1)).cells) rfl (by repeat (first | exact Rm.here | apply Rm.there)) (by first | exact C2_same _ _ _ _ | exact C4_same _ _ _ _ _ _ _ _ | exact Dc_same _ _ | rfl) rfl rfl rfl ?_
          clear hp
          intro s hp _
          conv => whnf
          repeat (first | (refine Br.no q1 ?_; conv => whnf) | (first | (refine Br.yes (by first | with_reducible rfl | with_reducible exact beq_self_eq_true _ | rfl) ?_; conv => whnf) | (refine Br.no (by first | with_reducible rfl | with_reducible exact bne_self_eq_false _ | rfl) ?_; conv => whnf)))
          refine hp.loadA (l := (Ln.mk 0 (mkD (-(sumZ out)) sc) (-1)).cells) (by repeat (first | exact Has.here | apply Has.there | (apply Has.swap; repeat (first | exact HasR.here | apply HasR.there)))) rfl (by rfl) rfl rfl ?_
          conv => whnf
          refine hp.lit (cs := (Ln.mk 0 (mkD (-(sumZ out)) sc) (-1)).cells) (e := 6) (by rfl) ?_
          clear hp
          intro b6 s6 hp _
          conv => whnf
          have x4 := hp.blkSl (n := 1) (C := (Ln.mk 0 (mkD (-(sumZ out)) sc) (-1)).cells) (k := b6) (b := b6) (e := 6) (by repeat (first | exact Has.here | apply Has.there | (apply Has.swap; repeat (first | exact HasR.here | apply HasR.there)))) rfl
          refine hp.app LT Tryz.underlying24 rfl (κ := κo) (v := .slice ao out.length co) (by repeat (first | exact Rm.here | apply Rm.there)) (elems_sl x4) rfl rfl (by omega) ?_
          clear hp x4
          intro v7 κ7 s hp
          rw [← lnC_snoc, show out.length + 1 = (out ++ [Ln.mk 0 (mkD (-(sumZ out)) sc) (-1)]).length by simp] at hp
          conv => whnf
          rw [if_pos (.inl hs0), if_neg ho0]
          exact ⟨rfl, κ7, v7, hp.pik (by repeat (first | exact Pik.nil | exact Pik.refl _ | exact Rm.here | apply Rm.there | apply Pik.cons | apply Pik.skip)), subK_ok ⟨rfl, rfl, trivial⟩⟩
    · clear hp
      rintro e' L' s ⟨rfl, κ5, v5, hp, hs⟩
      refine Sm.weak _ hs ?_
      clear hs
      have hls : ∀ x ∈ lines1 out sc, MemLn x := fun x hx => (hev.good x hx).mem en2
      have hl7 := hev.len
      generalize hLS : lines1 out sc = ls at *
      clear hsb
      obtain ⟨k, hk, hk2⟩ : ∃ k : Nat, (bend.tdiv 20) % (ls.length : Int) = k ∧ k < ls.length := by
        have h1 := Int.emod_nonneg (bend.tdiv 20) (show (ls.length : Int) ≠ 0 by omega)
        have h2 := Int.emod_lt_of_pos (bend.tdiv 20) (show (0 : Int) < (ls.length : Int) by omega)
        exact ⟨((bend.tdiv 20) % (ls.length : Int)).toNat, by omega, by omega⟩
      obtain ⟨kb, b5, rfl, hlc, hp⟩ := hp.onBlk (κ := κ5) (v := v5) (by repeat (first | exact Rm.here | apply Rm.there)) (by omega)
      have hix := idx_at (P := Tryz.prog) LT (b := b5) (off := 0) (c := ls.length) (n := ls.length) .i64 hk2
      rw [Nat.zero_add] at hix
      have hset : ∀ (y : Ln) (s' : St), MemLn y → (bend = 0 → False) → Hp (fun _ => False) z [slA none (.slice a l.length cp) 1 l.length (l.map (Value.int .i64))] [blkA kb b5 (lnC (ls.set k y)) 6] s' → K0 z s' ∧ LinesAns z l sc bend ents (.slice (some ⟨b5, 0, none⟩) ls.length ls.length) s' := by
        intro y s' hy hb0 hp
        have h9 := hp.blkO (n := ls.length) (by repeat (first | exact Rm.here | apply Rm.there)) (by rw [lnC_len, List.length_set])
        have h10 := h9.out (by repeat (first | exact Rm.here | apply Rm.there))
        have e : (ls.set k y).length = ls.length := List.length_set
        refine ⟨hp.fr, ans_own (ls := ls.set k y) (by rw [e]; exact h10) (by rw [e]; exact hl7.1) (by rw [e]; omega) (fun x hx => ?_) (fun h => (hb0 h).elim)⟩
        rcases mem_set hx with g | g
        · rw [g]; exact hy
        · exact hls x g
      have hmk := hls _ (List.getElem_mem hk2)
      refine Sm.seqW ?_
      conv => whnf
      refine Om.of _ (quoI (m := 20) (by decide) hb) ?_
      conv => whnf
      refine (pick_spec _ (tdiv_inR (m := 20) (by decide) hb) (m := (ls.length : Int)) (by omega) (by omega)).mono ?_
      rintro _ s1 ⟨h1, rfl⟩
      obtain rfl := h1.symm
      conv => whnf
      rw [hk]
      refine Sm.live [2, 9, 14] ?_
      conv => whnf
      refine Sm.seq ?_
      refine Sm.seqW ?_
      conv => whnf
      refine (pick_spec _ hb (m := 20) (by decide) (by decide)).mono ?_
      rintro _ s1 ⟨h1, rfl⟩
      obtain rfl := h1.symm
      conv => whnf
      refine Sm.live [2, 9, 14, 104] ?_
      conv => whnf
      refine Sm.ofW ?_
      conv => whnf
      have pk : ∀ (m : Int), 0 < m → 0 ≤ (bend.tdiv 160) % m ∧ (bend.tdiv 160) % m < m := fun m h => ⟨Int.emod_nonneg _ (by omega), Int.emod_lt_of_pos _ h⟩
      by_cases h12 : bend % 20 = 12
      · refine Br.yes (beq_iff_eq.2 h12) ?_
        conv => whnf
        refine Om.of _ (quoI (m := 160) (by decide) hb) ?_
        conv => whnf
        refine (pick_spec _ (tdiv_inR (m := 160) (by decide) hb) (m := 19) (by decide) (by decide)).mono ?_
        rintro _ s1 ⟨h1, rfl⟩
        obtain rfl := h1.symm
        conv => whnf
        have p1 := pk 19 (by decide)
        rw [wi64 (n := (bend.tdiv 160) % 19 - 2) (by omega) (by omega)]
        refine Om.of _ (hix) ?_
        conv => whnf
        refine hp.store (off := k * 6 + 0) (by repeat (first | exact Rm.here | apply Rm.there)) (by rw [lnC_len]; omega) rfl rfl rfl rfl ?_
        clear hp
        intro s hp _
        rw [lnC_set (y := ⟨(bend.tdiv 160) % 19 - 2, ls[k].amt, ls[k].wth⟩) hk2 (by decide) rfl] at hp
        conv => whnf
        refine Sm.seqW ?_
        conv => whnf
        refine Sm.live [8] ?_
        conv => whnf
        refine Sm.ofW ?_
        conv => whnf
        exact ⟨hset ⟨(bend.tdiv 160) % 19 - 2, ls[k].amt, ls[k].wth⟩ _ ⟨by (show (bend.tdiv 160) % 19 - 2 < 100); omega, hmk.wth, hmk.amt⟩ (fun h => by rw [h] at h12; exact absurd h12 (by decide)) hp⟩
      refine Br.no (beq_eq_false_iff_ne.2 h12) ?_
      conv => whnf
      by_cases h13 : bend % 20 = 13
      · refine Br.yes (beq_iff_eq.2 h13) ?_
        conv => whnf
        refine Om.of _ (quoI (m := 7) (by decide) hb) ?_
        conv => whnf
        refine Om.of _ (quoI (m := 160) (by decide) hb) ?_
        conv => whnf
        refine hp.call (hdec_spec hp.wf hb (tdiv_inR (m := 7) (by decide) hb) (tdiv_inR (m := 160) (by decide) hb)) ?_
        clear hp
        rintro _ s ⟨d, hd1, hd2, rfl⟩ hp _
        conv => whnf
        refine Om.of _ (hix) ?_
        conv => whnf
        refine hp.storeA (off := k * 6 + 1) (vs := d.cells) rfl (by repeat (first | exact Rm.here | apply Rm.there)) (by rw [lnC_len]; show k * 6 + 1 + 4 ≤ _; omega) rfl rfl rfl ?_
        clear hp
        intro s hp _
        rw [lnC_put (y := ⟨ls[k].acct, d, ls[k].wth⟩) hk2 rfl (by show 1 + 4 ≤ 6; decide)] at hp
        conv => whnf
        refine Sm.seqW ?_
        conv => whnf
        refine Sm.live [8] ?_
        conv => whnf
        refine Sm.ofW ?_
        conv => whnf
        exact ⟨hset ⟨ls[k].acct, d, ls[k].wth⟩ _ ⟨hmk.acct, hmk.wth, hd1⟩ (fun h => by rw [h] at h13; exact absurd h13 (by decide)) hp⟩
      refine Br.no (beq_eq_false_iff_ne.2 h13) ?_
      conv => whnf
      by_cases h14 : bend % 20 = 14
      · refine Br.yes (beq_iff_eq.2 h14) ?_
        conv => whnf
        refine Om.of _ (quoI (m := 160) (by decide) hb) ?_
        conv => whnf
        refine (pick_spec _ (tdiv_inR (m := 160) (by decide) hb) (m := 11) (by decide) (by decide)).mono ?_
        rintro _ s1 ⟨h1, rfl⟩
        obtain rfl := h1.symm
        conv => whnf
        have p1 := pk 11 (by decide)
        rw [wi64 (n := (bend.tdiv 160) % 11 - 2) (by omega) (by omega)]
        refine Om.of _ (hix) ?_
        conv => whnf
        refine hp.store (off := k * 6 + 5) (by repeat (first | exact Rm.here | apply Rm.there)) (by rw [lnC_len]; omega) rfl rfl rfl rfl ?_
        clear hp
        intro s hp _
        rw [lnC_set (y := ⟨ls[k].acct, ls[k].amt, (bend.tdiv 160) % 11 - 2⟩) hk2 (by decide) rfl] at hp
        conv => whnf
        refine Sm.seqW ?_
        conv => whnf
        refine Sm.live [8] ?_
        conv => whnf
        refine Sm.ofW ?_
        conv => whnf
        exact ⟨hset ⟨ls[k].acct, ls[k].amt, (bend.tdiv 160) % 11 - 2⟩ _ ⟨hmk.acct, by (show (bend.tdiv 160) % 11 - 2 < 100); omega, hmk.amt⟩ (fun h => by rw [h] at h14; exact absurd h14 (by decide)) hp⟩
      refine Br.no (beq_eq_false_iff_ne.2 h14) ?_
      conv => whnf
      by_cases h15 : bend % 20 = 15
      · refine Br.yes (beq_iff_eq.2 h15) ?_
        conv => whnf
        replace hp := hp.blkO (n := ls.length) (by repeat (first | exact Rm.here | apply Rm.there)) hlc
        refine Lp.ofS (α := List Ln × Option Nat × Value) (fun x => [(2, .int .i64 bend), (9, x.2.2)])
          (fun x s' => 1 ≤ x.1.length ∧ x.1.length ≤ 9 ∧ (∀ y ∈ x.1, MemLn y) ∧ Hp (fun _ => False) z [slA none (.slice a l.length cp) 1 l.length (l.map (Value.int .i64))] [onA x.2.1 x.2.2 6 x.1.length (lnC x.1)] s') (fun x => 9 - x.1.length) ?_ (ls, _, _) (subK_ok (by refine ⟨rfl, rfl, trivial⟩)) ⟨hl7.1, by show ls.length ≤ 9; omega, hls, hp⟩
        clear hp hset
        rintro ⟨L, κL, vL⟩ s ⟨hL1, hL9, hLm, hp⟩
        simp only at hL1 hL9 hLm hp
        obtain ⟨aL, cL, rfl⟩ := (hp.slF (κ := κL) (v := vL) (by repeat (first | exact Rm.here | apply Rm.there))).shape
        refine Sm.seq ?_
        refine Sm.seqW ?_
        conv => whnf
        refine Sm.live [2, 9, 141] ?_
        conv => whnf
        refine Sm.ofW ?_
        conv => whnf
        refine Br.mk (fun hc => ?_) (fun hc => ?_)
        · have hc : L.length < 9 := by have : ((L.length : Nat) : Int) < 9 := of_decide_eq_true hc; omega
          obtain ⟨e, f1, f2⟩ := index_ln (hp.slF (κ := κL) (v := .slice aL L.length cL) (by repeat (first | exact Rm.here | apply Rm.there))) .i64 (i := 0) hL1
          have hm0 := hLm _ (List.getElem_mem (show 0 < L.length from hL1))
          generalize hx0 : L[0] = x at *
          conv => whnf
          refine Sm.block ?_
          refine Sm.ofW ?_
          conv => whnf
          refine Om.of _ (f1) ?_
          conv => whnf
          refine Om.of _ (f2) ?_
          conv => whnf
          refine hp.lit (cs := x.cells) (e := 6) (by rfl) ?_
          clear hp
          intro b4 s4 hp _
          conv => whnf
          have x4 := hp.blkSl (n := 1) (C := x.cells) (k := b4) (b := b4) (e := 6) (by repeat (first | exact Has.here | apply Has.there | (apply Has.swap; repeat (first | exact HasR.here | apply HasR.there)))) rfl
          refine hp.app LT Tryz.underlying24 rfl (κ := κL) (v := .slice aL L.length cL) (by repeat (first | exact Rm.here | apply Rm.there)) (elems_sl x4) rfl rfl (by omega) ?_
          clear hp x4
          intro v5 κ5 s hp
          rw [← lnC_snoc, show L.length + 1 = (L ++ [x]).length by simp] at hp
          conv => whnf
          exact ⟨(L ++ [x], κ5, v5), by (show 9 - (L ++ [x]).length < 9 - L.length); simp; omega, subK_ok (by refine ⟨rfl, rfl, trivial⟩), by (show 1 ≤ (L ++ [x]).length); simp, by (show (L ++ [x]).length ≤ 9); simp; omega, fun y hy => by
            rcases List.mem_append.1 hy with g | g
            · exact hLm y g
            · obtain rfl := List.mem_singleton.1 g; exact hm0, hp.pik (by repeat (first | exact Pik.nil | exact Pik.refl _ | exact Rm.here | apply Rm.there | apply Pik.cons | apply Pik.skip))⟩
        · have hc : L.length = 9 := by have : ¬ ((L.length : Nat) : Int) < 9 := of_decide_eq_false hc; omega
          conv => whnf
          refine Om.of _ (quoI (m := 160) (by decide) hb) ?_
          conv => whnf
          refine (pick_spec _ (tdiv_inR (m := 160) (by decide) hb) (m := 3) (by decide) (by decide)).mono ?_
          rintro _ s1 ⟨h1, rfl⟩
          obtain rfl := h1.symm
          conv => whnf
          have p1 := pk 3 (by decide)
          obtain ⟨m, hm⟩ : ∃ m : Nat, 7 + (bend.tdiv 160) % 3 = m := ⟨(7 + (bend.tdiv 160) % 3).toNat, by omega⟩
          rw [wi64 (n := 7 + (bend.tdiv 160) % 3) (by omega) (by omega), hm]
          obtain ⟨v', f1, f2⟩ := slice_sl LT (hp.slF (κ := κL) (v := .slice aL L.length cL) (by repeat (first | exact Rm.here | apply Rm.there))) .i64 .i64 none (some m) (by simp) (by simp only [Option.getD_some]; omega)
          refine Om.of _ (f1) ?_
          conv => whnf
          refine Sm.seqW ?_
          conv => whnf
          refine Sm.live [8] ?_
          conv => whnf
          refine Sm.ofW ?_
          conv => whnf
          simp only [Option.getD_some, Option.getD_none, Nat.zero_mul, List.drop_zero, Nat.sub_zero] at f2
          have et : (lnC L).take (m * 6) = lnC (L.take m) := by
            have e1 : L = L.take m ++ L.drop m := (List.take_append_drop _ _).symm
            conv => lhs; rw [e1, lnC_app]
            exact List.take_left' (by rw [lnC_len, List.length_take]; omega)
          rw [et] at f2
          have elen : (L.take m).length = m := by rw [List.length_take]; omega
          refine ⟨hp.fr, ⟨L.take m, κL, by rw [Sln, elen]; exact f2, fun j hj => ?_, by omega, by omega, fun x hx => hLm x (List.mem_of_mem_take hx), fun h => by rw [h] at h15; exact absurd h15 (by decide)⟩⟩
          rcases hp.own _ (List.mem_cons_self ..) j hj with g | g
          · exact g.elim
          · exact g
      refine Br.no (beq_eq_false_iff_ne.2 h15) ?_
      conv => whnf
      by_cases h16 : bend % 20 = 16
      · refine Br.yes (beq_iff_eq.2 h16) ?_
        conv => whnf
        refine Om.of _ (hix) ?_
        conv => whnf
        refine hp.loadA (l := ls[k].amt.cells) (by repeat (first | exact Has.here | apply Has.there | (apply Has.swap; repeat (first | exact HasR.here | apply HasR.there)))) rfl (lnC_sl hk2) rfl rfl ?_
        conv => whnf
        refine hp.call (rneg_spec hp.wf ls[k].amt hmk.amt) ?_
        clear hp
        rintro _ s rfl hp _
        conv => whnf
        refine Om.of _ (hix) ?_
        conv => whnf
        refine hp.storeA (off := k * 6 + 1) (vs := (negF ls[k].amt).cells) rfl (by repeat (first | exact Rm.here | apply Rm.there)) (by rw [lnC_len]; show k * 6 + 1 + 4 ≤ _; omega) rfl rfl rfl ?_
        clear hp
        intro s hp _
        rw [lnC_put (y := ⟨ls[k].acct, negF ls[k].amt, ls[k].wth⟩) hk2 rfl (by show 1 + 4 ≤ 6; decide)] at hp
        conv => whnf
        refine Sm.seqW ?_
        conv => whnf
        refine Sm.live [8] ?_
        conv => whnf
        refine Sm.ofW ?_
        conv => whnf
        have hnc : (negF ls[k].amt).c < w128 := by
          unfold negF
          split
          · exact hmk.amt
          · show 0 < w128; decide
        exact ⟨hset ⟨ls[k].acct, negF ls[k].amt, ls[k].wth⟩ _ ⟨hmk.acct, hmk.wth, hnc⟩ (fun h => by rw [h] at h16; exact absurd h16 (by decide)) hp⟩
      refine Br.no (beq_eq_false_iff_ne.2 h16) ?_
      conv => whnf
      refine Sm.seqW ?_
      conv => whnf
      refine Sm.live [8] ?_
      conv => whnf
      refine Sm.ofW ?_
      conv => whnf
      have h9 := hp.blkO (n := ls.length) (by repeat (first | exact Rm.here | apply Rm.there)) hlc
      exact ⟨hp.fr, ans_own (h9.out (by repeat (first | exact Rm.here | apply Rm.there))) hl7.1 (by omega) hls (fun _ => by rw [hend]; exact hLS.symm)⟩
end Go.Ev
end

/- Lines that are alike; chapter 12's example. No condition. -/
noncomputable section
namespace Go.Ev
open Go.Proofs
variable [Lk]
set_option linter.unusedSectionVars false
set_option linter.unusedVariables false
set_option maxRecDepth 100000

def eqLn (a b : Ln) : Bool := a.acct == b.acct && (eqD a.amt b.amt && a.wth == b.wth)
theorem eqLn_self (a : Ln) : eqLn a a = true := by
  unfold eqLn eqD
  simp
theorem eqLn_iff {a b : Ln} : eqLn a b = true ↔ a = b := by
  constructor
  · intro h
    unfold eqLn eqD at h
    simp only [Bool.and_eq_true, beq_iff_eq, decide_eq_true_eq] at h
    obtain ⟨aa, ⟨an, ac, ae⟩, aw⟩ := a
    obtain ⟨ba, ⟨bn, bc, be⟩, bw⟩ := b
    simp only at h
    obtain ⟨h1, ⟨h2, h3, h4⟩, h5⟩ := h
    subst h1 h2 h3 h4 h5
    rfl
  · rintro rfl; exact eqLn_self a
def exT : List UInt8 := [48, 58, 49, 48, 46, 53, 48, 44, 56, 58, 45, 49, 48, 46, 53, 48]
def exL : List Ln := [⟨0, ⟨false, 1050, 2⟩, -1⟩, ⟨8, ⟨true, 1050, 2⟩, -1⟩]
theorem ex_read : readL exT = (exL, 0) := by kernel_rfl
theorem ex_print : printL exL = exT := by kernel_rfl
theorem ex_right : rightLF exL 2 = 0 := by kernel_rfl
theorem eknown_spec {z : St} (wf : WF z) (hg : Gs z) : Cw Tryz.prog 17 [] z fun r s' => K0 z s' ∧ r = .bool true := by
  have hp : Hp (fun _ => False) z [] [] z := Hp.start _ wf _ (by simp)
  refine Cw.enterS Tryz.func17 rfl rfl ?_
  refine Sm.seqW ?_
  conv => whnf
  refine Sm.seqW ?_
  conv => whnf
  refine hp.call (eread_spec hp.wf hg exT (by decide)) ?_
  intro r s hr h1 k1
  obtain ⟨w, rfl, how⟩ := hr
  rw [ex_read] at how ⊢
  obtain ⟨κ, hp⟩ := hp.on k1 how
  clear h1 k1 how
  obtain ⟨aw, cw, rfl⟩ := (hp.slF (κ := κ) (v := w) (by repeat (first | exact Rm.here | apply Rm.there))).shape
  conv => whnf
  refine Sm.live [1, 2] ?_
  conv => whnf
  refine Sm.seqW ?_
  conv => whnf
  refine ⟨[0, 1, 3, 7, 15, 31, 63, 127, 255, 511, 1023, 255, 2303, 8191, 16383, 32767, 65535, 131071, 262143, 524287, 1048575, 2097151, 4194303, 8388607, 16777215, 33554431], by decide +kernel, by decide +kernel, ?_⟩
  conv => whnf
  have hmem : ∀ x ∈ exL, MemLn x := by
    intro x hx
    simp only [exL, List.mem_cons, List.not_mem_nil, or_false] at hx
    rcases hx with rfl | rfl <;> exact ⟨by decide, by decide, by decide⟩
  repeat (first | (refine Br.yes (by first | with_reducible rfl | with_reducible exact beq_self_eq_true _ | rfl) ?_; conv => whnf) | (refine Br.no (by first | with_reducible rfl | with_reducible exact bne_self_eq_false _ | rfl) ?_; conv => whnf))
  obtain ⟨e, f1, f2⟩ := index_ln (hp.slF (κ := κ) (v := .slice aw exL.length cw) (by repeat (first | exact Rm.here | apply Rm.there))) .i64 (i := 1) (by decide)
  refine Om.of _ (f1) ?_
  conv => whnf
  repeat (first | (refine Br.yes (by first | with_reducible rfl | with_reducible exact beq_self_eq_true _ | rfl) ?_; conv => whnf) | (refine Br.no (by first | with_reducible rfl | with_reducible exact bne_self_eq_false _ | rfl) ?_; conv => whnf))
  refine Om.of _ (f2) ?_
  conv => whnf
  repeat (first | (refine Br.yes (by first | with_reducible rfl | with_reducible exact beq_self_eq_true _ | rfl) ?_; conv => whnf) | (refine Br.no (by first | with_reducible rfl | with_reducible exact bne_self_eq_false _ | rfl) ?_; conv => whnf))
  refine hp.rst.call (rof_spec hp.rst.wf (n := -1050) (by unfold inR; decide) 2) ?_
  rintro _ s1 rfl h1 k1
  conv => whnf
  refine hp.dkN h1 k1 ?_
  clear hp h1 k1
  intro s hp
  conv => whnf
  repeat (first | (refine Br.yes (by first | with_reducible rfl | with_reducible exact beq_self_eq_true _ | rfl) ?_; conv => whnf) | (refine Br.no (by first | with_reducible rfl | with_reducible exact bne_self_eq_false _ | rfl) ?_; conv => whnf))
  refine Om.of (.bool true) (by kernel_rfl) ?_
  conv => whnf
  repeat (first | (refine Br.yes (by first | with_reducible rfl | with_reducible exact beq_self_eq_true _ | rfl) ?_; conv => whnf) | (refine Br.no (by first | with_reducible rfl | with_reducible exact bne_self_eq_false _ | rfl) ?_; conv => whnf))
  refine hp.rst.call (eright_spec hp.rst.wf (hp.rst.slF (κ := κ) (v := .slice aw exL.length cw) (by repeat (first | exact Rm.here | apply Rm.there))) (fun x hx => (hmem x hx).amt) (by decide) 2) ?_
  rintro _ s1 rfl h1 k1
  conv => whnf
  refine hp.dkN h1 k1 ?_
  clear hp h1 k1
  intro s hp
  conv => whnf
  rw [ex_right]
  repeat (first | (refine Br.yes (by first | with_reducible rfl | with_reducible exact beq_self_eq_true _ | rfl) ?_; conv => whnf) | (refine Br.no (by first | with_reducible rfl | with_reducible exact bne_self_eq_false _ | rfl) ?_; conv => whnf))
  refine hp.rst.call (eprint_spec hp.rst.wf (hp.rst.slF (κ := κ) (v := .slice aw exL.length cw) (by repeat (first | exact Rm.here | apply Rm.there))) hmem (by decide)) ?_
  rintro _ s1 rfl h1 k1
  conv => whnf
  refine hp.dkN h1 k1 ?_
  clear hp h1 k1
  intro s hp
  conv => whnf
  rw [ex_print]
  repeat (first | (refine Br.yes (by first | with_reducible rfl | with_reducible exact beq_self_eq_true _ | rfl) ?_; conv => whnf) | (refine Br.no (by first | with_reducible rfl | with_reducible exact bne_self_eq_false _ | rfl) ?_; conv => whnf))
  refine Om.of _ (sv_eq exT exT) ?_
  conv => whnf
  repeat (first | (refine Br.yes (by first | with_reducible rfl | with_reducible exact beq_self_eq_true _ | rfl) ?_; conv => whnf) | (refine Br.no (by first | with_reducible rfl | with_reducible exact bne_self_eq_false _ | rfl) ?_; conv => whnf))
  refine Sm.live [0] ?_
  conv => whnf
  refine Sm.ofW ?_
  conv => whnf
  exact ⟨hp.fr, rfl⟩
end Go.Ev
end

/- EntryLimits walked. No condition. -/
noncomputable section
namespace Go.Ev
open Go.Proofs
variable [Lk]
set_option linter.unusedSectionVars false
set_option linter.unusedVariables false
set_option maxRecDepth 100000

theorem hlines0_spec {z : St} (wf : WF z) {v : Value} {l : List Int} (hv : Sl z none v 1 l.length (l.map (Value.int .i64))) (hl : l.length ≤ 140737488351232) (hln : ∀ n ∈ l, inR n) {sc : Int} (sc1 : 0 ≤ sc) (sc2 : sc ≤ 9) :
    Cw Tryz.prog 13 [v, .int .i64 sc, .int .i64 0, .int .i64 4] z fun r s' => K0 z s' ∧ ∃ ls, Even sc 4 ls ∧ OwnN z.next s' r 6 ls.length (lnC ls) :=
  (hlines_spec wf hv hl hln sc1 sc2 (bend := 0) (by unfold inR; decide) (ents := 4) (by decide) (by decide)).mono fun r s' ⟨h1, h2⟩ => by
    obtain ⟨ls, κ, g1, g2, g3, g4, g5, g6⟩ := h2.ex
    obtain ⟨g7, g8⟩ := g6 rfl
    exact ⟨h1, ls, by rw [g7]; exact lines_even sc 4 l, g8⟩
theorem mod5 (x : Int) : 0 ≤ x % 5 ∧ x % 5 < 5 := ⟨Int.emod_nonneg _ (by decide), Int.emod_lt_of_pos _ (by decide)⟩
theorem pickN (x : Int) {n : Nat} (h : 0 < n) : ∃ k : Nat, x % (n : Int) = k ∧ k < n := by
  have h1 := Int.emod_nonneg x (show (n : Int) ≠ 0 by omega)
  have h2 := Int.emod_lt_of_pos x (show (0 : Int) < (n : Int) by omega)
  exact ⟨(x % (n : Int)).toNat, by omega, by omega⟩
theorem right_sign {x : Ln} {sc : Int} (h : signF x.amt = 0) : rightLn x sc = false := by
  unfold rightLn
  rw [h]; simp
end Go.Ev
end

/- EntryBack walked. No condition. -/
noncomputable section
namespace Go.Ev
open Go.Proofs
variable [Lk]
set_option linter.unusedSectionVars false
set_option linter.unusedVariables false
set_option maxRecDepth 100000

instance lnDec : DecidableEq Ln := fun a b => decidable_of_iff (eqLn a b = true) eqLn_iff
end Go.Ev
end

/- EntryEven walked. No condition. -/
noncomputable section
namespace Go.Ev
open Go.Proofs
variable [Lk]
set_option linter.unusedSectionVars false
set_option linter.unusedVariables false
set_option maxRecDepth 100000

theorem lnC_one (ls : List Ln) : (lnC ls).all (·.oneCell') = true := by
  rw [List.all_eq_true]
  intro v hv
  unfold lnC at hv
  obtain ⟨c, hc, hv⟩ := List.mem_flatten.1 hv
  obtain ⟨x, hx, rfl⟩ := List.mem_map.1 hc
  simp only [Ln.cells, List.mem_cons, List.not_mem_nil, or_false] at hv
  rcases hv with rfl | rfl | rfl | rfl | rfl | rfl <;> rfl
theorem lnC_drop (ls : List Ln) (n : Nat) : (lnC ls).drop (n * 6) = lnC (ls.drop n) := by
  rcases Nat.le_total n ls.length with h | h
  · have e1 : ls = ls.take n ++ ls.drop n := (List.take_append_drop _ _).symm
    conv => lhs; rw [e1, lnC_app]
    exact List.drop_left' (by rw [lnC_len, List.length_take]; omega)
  · rw [List.drop_eq_nil_of_le (by rw [lnC_len]; omega), List.drop_eq_nil_of_le h]; rfl
theorem lnC_take (ls : List Ln) {n : Nat} (h : n ≤ ls.length) : (lnC ls).take (n * 6) = lnC (ls.take n) := by
  have e1 : ls = ls.take n ++ ls.drop n := (List.take_append_drop _ _).symm
  conv => lhs; rw [e1, lnC_app]
  exact List.take_left' (by rw [lnC_len, List.length_take]; omega)
theorem slice_lnD {s : St} {κ : Option Nat} {v : Value} {ls : List Ln} (h : Sln s κ v ls) {n : Nat} (hn : n ≤ ls.length) :
    ∃ v', evSliceMem Tryz.prog 24 v (some (.int .i64 (n : Int))) none none s = some v' ∧ Sln s κ v' (ls.drop n) := by
  obtain ⟨v', e, h'⟩ := slice_sl LT h .i64 .i64 (some n) none (by simpa using hn) (by simp)
  refine ⟨v', e, ?_⟩
  simp only [Option.getD_some, Option.getD_none] at h'
  rw [lnC_drop, List.take_of_length_le (by rw [lnC_len, List.length_drop]; omega)] at h'
  rw [Sln, List.length_drop]
  exact h'
theorem slice_lnT {s : St} {κ : Option Nat} {v : Value} {ls : List Ln} (h : Sln s κ v ls) {n : Nat} (hn : n ≤ ls.length) :
    ∃ v', evSliceMem Tryz.prog 24 v none (some (.int .i64 (n : Int))) none s = some v' ∧ Sln s κ v' (ls.take n) := by
  obtain ⟨v', e, h'⟩ := slice_sl LT h .i64 .i64 none (some n) (by simp) (by simpa using hn)
  refine ⟨v', e, ?_⟩
  simp only [Option.getD_some, Option.getD_none, Nat.zero_mul, List.drop_zero, Nat.sub_zero] at h'
  rw [lnC_take ls hn] at h'
  rw [Sln, List.length_take, Nat.min_eq_left hn]
  exact h'
theorem right_amt {x : Ln} {sc : Int} {d : Dc} (h : rightLn x sc = true) (h1 : signF d ≠ 0) (h2 : d.scale = sc) : rightLn ⟨x.acct, d, x.wth⟩ sc = true := by
  unfold rightLn at h ⊢
  simp only [Bool.and_eq_true] at h
  obtain ⟨g1, g2, g3, g4⟩ := h
  have e1 : (signF d == 0) = false := beq_eq_false_iff_ne.2 h1
  have e2 : (d.scale == sc) = true := beq_iff_eq.2 h2
  simp only [g1, e1, e2, g4]
  rfl
theorem sumZ_set {ls : List Ln} {k : Nat} (y : Ln) (hk : k < ls.length) : sumZ (ls.set k y) = sumZ ls - valI ls[k].amt + valI y.amt := by
  have h1 : ls = ls.take k ++ ls[k] :: ls.drop (k + 1) := by rw [← List.drop_eq_getElem_cons hk, List.take_append_drop]
  have h2 : ls.set k y = ls.take k ++ y :: ls.drop (k + 1) := by rw [List.set_eq_take_append_cons_drop, if_pos hk]
  have h3 : sumZ ls = sumZ (ls.take k) + (valI ls[k].amt + sumZ (ls.drop (k + 1))) := by
    conv => lhs; rw [h1]
    rw [sumZ_app, sumZ_cons]
  rw [h2, h3, sumZ_app, sumZ_cons]; omega
theorem Even.turned {sc ents : Int} {ls : List Ln} (h : Even sc ents ls) {n : Nat} (hn : n ≤ ls.length) : Even sc ents (ls.drop n ++ ls.take n) := by
  have e1 : sumZ ls = sumZ (ls.take n) + sumZ (ls.drop n) := by rw [← sumZ_app, List.take_append_drop]
  refine ⟨fun x hx => ?_, ?_, ?_⟩
  · rcases List.mem_append.1 hx with g | g
    · exact h.good x (List.mem_of_mem_drop g)
    · exact h.good x (List.mem_of_mem_take g)
  · have := h.sum
    rw [sumZ_app]; omega
  · have := h.len
    simp only [List.length_append, List.length_drop, List.length_take]; omega
theorem sl_saE {s s' : St} {κ κ' : Option Nat} {v : Value} {e n n' : Nat} {cs cs' : List Value} (h : Sl s κ v e n cs) (h' : Sl s' κ' v e n' cs') : Sa false (blkOf v) s s' := by
  rcases h.ex with ⟨rfl, _⟩ | ⟨b, off, c, C, rfl, _, _, _, h5⟩
  · exact Hp.saN
  · rcases h'.ex with ⟨g, _⟩ | ⟨b', off', c', C', g, _, _, _, g5⟩
    · cases g
    · injection g with g1 g2 g3
      injection g1 with g1
      injection g1 with g4 g6
      subst g4
      have e1 : blkEsz s b = some e := by
        rcases h5 with ⟨_, _, h⟩ | ⟨_, h⟩
        · exact h.esz
        · exact h.esz
      have e2 : blkEsz s' b = some e := by
        rcases g5 with ⟨_, _, h⟩ | ⟨_, h⟩
        · exact h.esz
        · exact h.esz
      exact ⟨by show blkEsz s' b = blkEsz s b; rw [e1, e2]⟩
theorem entryEven_walk {s0 : St} (wf : WF s0) (hg : Gs s0) {v : Value} {z : List Int} (hv : Sl s0 none v 1 z.length (z.map (Value.int .i64))) (hl : z.length ≤ 140737488351232) (hz : ∀ n ∈ z, inR n) {scale at_ by_ turn : Int} (hs : inR scale) (ha : inR at_) (hb : inR by_) (ht : inR turn) :
    Cw Tryz.prog 3 [v, .int .i64 scale, .int .i64 at_, .int .i64 by_, .int .i64 turn] s0 fun r _ => r = .bool true := by
  have hp : Hp (fun _ => False) s0 [slA none v 1 z.length (z.map (Value.int .i64))] [] s0 := Hp.start _ wf _ (by simp; exact hv)
  refine Cw.enterS Tryz.func3 rfl rfl ?_
  refine Sm.seqW ?_
  conv => whnf
  refine Sm.live [0, 1, 2, 3, 4] ?_
  conv => whnf
  refine Sm.seqW ?_
  conv => whnf
  refine (pick_spec _ hs (m := 5) (by decide) (by decide)).mono ?_
  rintro _ s1 ⟨h1, rfl⟩
  obtain rfl := h1.symm
  conv => whnf
  obtain ⟨sc1, sc2⟩ := mod5 scale
  generalize scale % 5 = sc at *
  refine Sm.live [0, 1, 2, 3, 4] ?_
  conv => whnf
  refine Sm.seqW ?_
  conv => whnf
  refine hp.call (hlines0_spec hp.wf hv hl hz sc1 (by omega)) ?_
  intro v11 s ⟨ls, hev, how_⟩ h1 k1
  obtain ⟨κ, hp⟩ := hp.on k1 how_
  clear h1 k1 how_
  have hl7 := hev.len
  replace hp := hp.iceO (κ := κ) (v := v11) (by repeat (first | exact Rm.here | apply Rm.there))
  obtain ⟨a11, c11, rfl⟩ := (hp.slR (κ := κ) (v := v11) .here).shape
  obtain ⟨k, hk, hk2⟩ := pickN at_ (n := ls.length) (by omega)
  obtain ⟨n, hn, hn2⟩ := pickN turn (n := ls.length + 1) (by omega)
  have hgk := hev.good _ (List.getElem_mem hk2)
  have hmem : ∀ x ∈ ls, x.amt.c < w128 := fun x hx => ((hev.good x hx).mem (by decide)).amt
  have hmk := hmem _ (List.getElem_mem hk2)
  have e1 : IntKind.i64.wrap ((ls.length : Int) + 1) = ((ls.length + 1 : Nat) : Int) := by rw [wi64 (by omega) (by omega)]; omega
  conv => whnf
  refine Sm.live [1, 2, 3, 4, 11] ?_
  conv => whnf
  refine Sm.seqW ?_
  conv => whnf
  refine (pick_spec _ ha (m := (ls.length : Int)) (by omega) (by omega)).mono ?_
  rintro _ s1 ⟨h1, rfl⟩
  obtain rfl := h1.symm
  conv => whnf
  rw [hk]
  refine Sm.live [1, 3, 4, 11, 12] ?_
  conv => whnf
  refine Sm.seqW ?_
  conv => whnf
  rw [e1]
  refine (pick_spec _ ht (m := ((ls.length + 1 : Nat) : Int)) (by omega) (by omega)).mono ?_
  rintro _ s1 ⟨h1, rfl⟩
  obtain rfl := h1.symm
  conv => whnf
  rw [hn]
  refine Sm.live [1, 3, 11, 12, 13] ?_
  conv => whnf
  refine Sm.seqC (fun e' L' s' => e' = .normal ∧ ∃ κy w, Hp (fun _ => False) s0 [slA κ (.slice a11 ls.length c11) 6 ls.length (lnC ls)] [onA κy w 6 (ls.drop n ++ ls.take n).length (lnC (ls.drop n ++ ls.take n))] s' ∧ Sub [(1, .int .i64 sc), (3, .int .i64 by_), (11, .slice a11 ls.length c11), (12, .int .i64 (k : Int)), (14, w)] L') ?_ ?_
  · conv => whnf
    refine ⟨[0, 0, 0, 6, 15, 0, 0, 96, 255, 511], by decide +kernel, by decide +kernel, ?_⟩
    conv => whnf
    refine hp.rst.boxO LT ?_
    intro v0 b0 s1 h1 k1
    obtain ⟨a0, c0, rfl⟩ := (h1.slF (κ := some b0) (v := v0) (n := 0) (cs := []) (by repeat (first | exact Rm.here | apply Rm.there))).shape
    conv => whnf
    refine hp.dkN h1 k1 ?_
    clear hp h1 k1
    intro s hp
    conv => whnf
    have hS0 : Sln s κ (.slice a11 ls.length c11) ls := hp.slR (κ := κ) (v := .slice a11 ls.length c11) .here
    obtain ⟨v35, f1, f2⟩ := slice_lnD (hp.slR (κ := κ) (v := .slice a11 ls.length c11) .here) (n := n) (by omega)
    refine Om.of _ (f1) ?_
    conv => whnf
    replace hp := hp.view .here (a' := slA κ v35 6 (ls.drop n).length (lnC (ls.drop n))) f2 (fun j hj => hj)
    refine hp.rst.app LT Tryz.underlying24 rfl (κ := some b0) (v := .slice a0 0 c0) (by repeat (first | exact Rm.here | apply Rm.there)) (elems_sl (hp.rst.slR (κ := κ) (v := v35) .here)) (lnC_len _) (lnC_one _) (by rw [List.length_drop]; omega) ?_
    intro v36 κ36 s1 h1
    conv => whnf
    rw [Nat.zero_add, List.nil_append] at h1
    obtain ⟨a36, c36, rfl⟩ := (h1.slF (κ := κ36) (v := v36) (by repeat (first | exact Rm.here | apply Rm.there))).shape
    refine hp.dkA h1 ?_ ?_
    all_goals
      clear hp h1 f1 f2
      intro s hp
      conv => whnf
      obtain ⟨v39, f1, f2⟩ := slice_lnT (hp.slR (κ := κ) (v := .slice a11 ls.length c11) (.there .here)) (n := n) (by omega)
      refine Om.of _ (f1) ?_
      conv => whnf
      try (refine ⟨sl_saE hS0 (hp.slR (κ := κ) (v := .slice a11 ls.length c11) (.there .here)), ?_⟩; (conv => whnf))
      replace hp := hp.view (.there .here) (a' := slA κ v39 6 (ls.take n).length (lnC (ls.take n))) f2 (fun j hj => hj)
      refine hp.rst.app LT Tryz.underlying24 rfl (κ := κ36) (v := .slice a36 (ls.drop n).length c36) (by repeat (first | exact Rm.here | apply Rm.there)) (elems_sl (hp.rst.slR (κ := κ) (v := v39) .here)) (lnC_len _) (lnC_one _) (by rw [List.length_drop, List.length_take]; omega) ?_
      intro v40 κ40 s1 h1
      rw [← lnC_app, ← List.length_append] at h1
      conv => whnf
      obtain ⟨a40, c40, rfl⟩ := (h1.slF (κ := κ40) (v := v40) (by repeat (first | exact Rm.here | apply Rm.there))).shape
      refine hp.dkA h1 ?_ ?_
      all_goals
        clear hp h1
        intro s hp
        conv => whnf
        exact ⟨rfl, κ40, _, hp.pikR (by repeat (first | exact Pik.nil | exact Pik.refl _ | exact Rm.here | apply Rm.there | apply Pik.cons | apply Pik.skip)), subK_ok ⟨rfl, rfl, rfl, rfl, rfl, trivial⟩⟩
  clear hp
  rintro e' L' s ⟨rfl, κy, w, hp, hs⟩
  refine Sm.weak _ hs ?_
  clear hs
  have heY := hev.turned (n := n) (by omega)
  have hR1 := heY.rightLF sc1 (by omega) (by decide)
  have hmY : ∀ x ∈ ls.drop n ++ ls.take n, x.amt.c < w128 := fun x hx => ((heY.good x hx).mem (by decide)).amt
  have hlY := heY.len
  generalize ls.drop n ++ ls.take n = Y at *
  obtain ⟨ay, cy, rfl⟩ := (hp.slF (κ := κy) (v := w) (by repeat (first | exact Rm.here | apply Rm.there))).shape
  refine Sm.seqW ?_
  conv => whnf
  refine hp.boxO LT ?_
  clear hp
  intro v0 b0 s hp _
  obtain ⟨a0, c0, rfl⟩ := (hp.slF (κ := some b0) (v := v0) (n := 0) (cs := []) (by repeat (first | exact Rm.here | apply Rm.there))).shape
  conv => whnf
  refine hp.app LT Tryz.underlying24 rfl (κ := some b0) (v := .slice a0 0 c0) (by repeat (first | exact Rm.here | apply Rm.there)) (elems_sl (hp.slR (κ := κ) (v := .slice a11 ls.length c11) .here)) (lnC_len _) (lnC_one _) (by omega) ?_
  clear hp
  intro v15 κ15 s hp
  rw [Nat.zero_add, List.nil_append] at hp
  obtain ⟨kb, b, rfl, hlc, hp⟩ := hp.onBlk (κ := κ15) (v := v15) (by repeat (first | exact Rm.here | apply Rm.there)) (by omega)
  have hix := idx_at (P := Tryz.prog) LT (b := b) (off := 0) (c := ls.length) (n := ls.length) .i64 hk2
  rw [Nat.zero_add] at hix
  conv => whnf
  refine Sm.live [1, 3, 12, 14, 15] ?_
  conv => whnf
  refine Sm.seqW ?_
  conv => whnf
  refine (pick_spec _ hb (m := 5000000) (by decide) (by decide)).mono ?_
  rintro _ s1 ⟨h1, rfl⟩
  obtain rfl := h1.symm
  conv => whnf
  have p1 : 0 ≤ by_ % 5000000 ∧ by_ % 5000000 < 5000000 := ⟨Int.emod_nonneg _ (by decide), Int.emod_lt_of_pos _ (by decide)⟩
  rw [wi64 (n := 1 + by_ % 5000000) (by omega) (by omega)]
  obtain ⟨m, hm⟩ : ∃ m, m = 1 + by_ % 5000000 := ⟨_, rfl⟩
  rw [← hm]
  refine hp.call (rof_spec hp.wf (n := m) (by unfold inR; omega) sc) ?_
  clear hp
  rintro _ s rfl hp _
  conv => whnf
  rw [ofD_mk2 sc1 (by omega)]
  refine hp.alloc (cs := Dc.zero.cells) (e := 4) rfl rfl rfl rfl rfl ?_
  clear hp
  intro p16 s hp _
  conv => whnf
  refine hp.storeW (vs := (mkD m sc).cells) rfl (by repeat (first | exact Rm.here | apply Rm.there)) (by first | exact C2_same _ _ _ _ | exact C4_same _ _ _ _ _ _ _ _ | exact Dc_same _ _ | rfl) rfl rfl rfl ?_
  clear hp
  intro s hp _
  conv => whnf
  refine Sm.live [1, 12, 14, 15, 16] ?_
  conv => whnf
  refine Sm.seqW ?_
  conv => whnf
  refine ⟨[0, 0, 0, 0, 12, 28, 60, 0, 252, 508, 1020, 1020, 2047, 6143, 14335], by decide +kernel, by decide +kernel, ?_⟩
  conv => whnf
  refine Om.of _ (hix) ?_
  conv => whnf
  obtain ⟨y, q1, q2, q3⟩ := hgk.amt
  refine hp.loadA (l := ls[k].amt.cells) (by repeat (first | exact Has.here | apply Has.there | (apply Has.swap; repeat (first | exact HasR.here | apply HasR.there)))) rfl (lnC_sl hk2) rfl rfl ?_
  conv => whnf
  refine hp.loadA (l := (mkD m sc).cells) (by repeat (first | exact Has.here | apply Has.there | (apply Has.swap; repeat (first | exact HasR.here | apply HasR.there)))) rfl (by rfl) rfl rfl ?_
  conv => whnf
  have hxv : (Value.agg ls[k].amt.cells.toArray) = (mkD y sc).val := by rw [q3]; rfl
  rw [hxv]
  refine hp.rst.call (radd_spec hp.rst.wf (mkD y sc) (mkD m sc) (by show y.natAbs < w128; simp only [w128]; omega) (by show m.natAbs < w128; simp only [w128]; omega)) ?_
  rintro _ s1 rfl h1 k1
  conv => whnf
  refine hp.dkN h1 k1 ?_
  clear hp h1 k1
  intro s hp
  conv => whnf
  rw [addF_D, addD_mkD (by omega) (by omega) sc1 (by omega)]
  conv => whnf
  refine Om.of _ (hix) ?_
  conv => whnf
  refine hp.rst.storeA (off := k * 6 + 1) (vs := (mkD (y + m) sc).cells) rfl (by repeat (first | exact Rm.here | apply Rm.there)) (by rw [lnC_len]; show k * 6 + 1 + 4 ≤ _; omega) rfl rfl rfl ?_
  intro s1 h1 l1
  rw [lnC_put (y := ⟨ls[k].acct, mkD (y + m) sc, ls[k].wth⟩) hk2 rfl (by show 1 + 4 ≤ 6; decide)] at h1
  conv => whnf
  refine hp.dkW h1 l1 ?_
  clear hp h1 l1
  intro s hp
  conv => whnf
  obtain ⟨Z, hZ⟩ : ∃ Z, Z = ls.set k ⟨ls[k].acct, mkD (y + m) sc, ls[k].wth⟩ := ⟨_, rfl⟩
  have hZl : Z.length = ls.length := by rw [hZ, List.length_set]
  have hZk : Z[k]'(by omega) = ⟨ls[k].acct, mkD (y + m) sc, ls[k].wth⟩ := by simp [hZ]
  rw [← hZ] at hp
  have hzS : ∀ (s' : St) (R F : List At), Hp (fun _ => False) s0 R F s' → Has (blkA kb b (lnC Z) 6) F R → Sln s' (some kb) (.slice (some ⟨b, 0, none⟩) ls.length ls.length) Z := fun s' R F hp hm => by
    rw [Sln, hZl]
    exact hp.blkSl (n := ls.length) hm (by rw [lnC_len, hZl])
  have hmZ : ∀ x ∈ Z, x.amt.c < w128 := fun x hx => by
    rw [hZ] at hx
    rcases mem_set hx with g | g
    · rw [g]; show (y + m).natAbs < w128; simp only [w128]; omega
    · exact hmem x g
  have hrk := hgk.right sc1 (by omega) (by decide)
  have hRZ : rightLF Z sc = if y + m = 0 then 1 else 9 := by
    have hsg := sign_mk (x := y + m) (S := sc) (by omega) sc1 (by omega)
    by_cases h0 : y + m = 0
    · rw [if_pos h0]
      refine right_bad (x := Z[k]'(by omega)) (List.getElem_mem _) (right_sign ?_)
      rw [hZk]; exact hsg.2 h0
    · rw [if_neg h0]
      have hr : ∀ x ∈ Z, rightLn x sc = true := fun x hx => by
        rw [hZ] at hx
        rcases mem_set hx with g | g
        · rw [g]; exact right_amt hrk (fun h => h0 (hsg.1 h)) rfl
        · exact (hev.good x g).right sc1 (by omega) (by decide)
      have hmid : ∀ x ∈ Z, MidLn sc x := fun x hx => by
        rw [hZ] at hx
        rcases mem_set hx with g | g
        · rw [g]; exact ⟨y + m, by omega, rfl⟩
        · exact (hev.good x g).mid
      rw [right_mid sc1 (by omega) hr hmid (by omega), hZ, sumZ_set _ hk2, hev.sum, q3, val_mkD]
      rw [if_neg (by show ¬ (0 - y + valI (mkD (y + m) sc) = 0); rw [val_mkD]; omega)]
  refine Sm.live [1, 12, 14, 15] ?_
  conv => whnf
  refine Sm.seqW ?_
  conv => whnf
  refine hp.call (eright_spec hp.wf (hzS _ _ _ hp (by repeat (first | exact Has.here | apply Has.there | (apply Has.swap; repeat (first | exact HasR.here | apply HasR.there))))) hmZ (by omega) sc) ?_
  clear hp
  rintro _ s rfl hp _
  conv => whnf
  rw [hRZ]
  refine Sm.live [1, 12, 14, 15, 17] ?_
  conv => whnf
  refine Sm.seqW ?_
  conv => whnf
  refine hp.call (eknown_spec hp.wf (hg.keep hp.fr)) ?_
  clear hp
  rintro _ s rfl hp _
  conv => whnf
  repeat (first | (refine Br.yes (by first | with_reducible rfl | with_reducible exact beq_self_eq_true _ | rfl) ?_; conv => whnf) | (refine Br.no (by first | with_reducible rfl | with_reducible exact bne_self_eq_false _ | rfl) ?_; conv => whnf))
  refine hp.call (eright_spec hp.wf (hp.slF (κ := κy) (v := .slice ay Y.length cy) (by repeat (first | exact Rm.here | apply Rm.there))) hmY (by omega) sc) ?_
  clear hp
  rintro _ s rfl hp _
  conv => whnf
  rw [hR1]
  repeat (first | (refine Br.yes (by first | with_reducible rfl | with_reducible exact beq_self_eq_true _ | rfl) ?_; conv => whnf) | (refine Br.no (by first | with_reducible rfl | with_reducible exact bne_self_eq_false _ | rfl) ?_; conv => whnf))
  by_cases h0 : y + m = 0
  · have e9 : (if y + m = 0 then (1 : Int) else 9) = 1 := if_pos h0
    rw [e9]
    repeat (first | (refine Br.yes (by first | with_reducible rfl | with_reducible exact beq_self_eq_true _ | rfl) ?_; conv => whnf) | (refine Br.no (by first | with_reducible rfl | with_reducible exact bne_self_eq_false _ | rfl) ?_; conv => whnf))
    refine Om.of _ (hix) ?_
    conv => whnf
    repeat (first | (refine Br.yes (by first | with_reducible rfl | with_reducible exact beq_self_eq_true _ | rfl) ?_; conv => whnf) | (refine Br.no (by first | with_reducible rfl | with_reducible exact bne_self_eq_false _ | rfl) ?_; conv => whnf))
    have hzl := lnC_sl (ls := Z) (k := k) (by omega)
    rw [hZk] at hzl
    refine hp.loadA (l := (mkD (y + m) sc).cells) (by repeat (first | exact Has.here | apply Has.there | (apply Has.swap; repeat (first | exact HasR.here | apply HasR.there)))) rfl hzl rfl rfl ?_
    conv => whnf
    repeat (first | (refine Br.yes (by first | with_reducible rfl | with_reducible exact beq_self_eq_true _ | rfl) ?_; conv => whnf) | (refine Br.no (by first | with_reducible rfl | with_reducible exact bne_self_eq_false _ | rfl) ?_; conv => whnf))
    refine hp.call (rsign_spec hp.wf (mkD (y + m) sc) (by show (y + m).natAbs < w128; simp only [w128]; omega)) ?_
    clear hp
    rintro _ s rfl hp _
    conv => whnf
    rw [(sign_mk (x := y + m) (S := sc) (by omega) sc1 (by omega)).2 h0]
    repeat (first | (refine Br.yes (by first | with_reducible rfl | with_reducible exact beq_self_eq_true _ | rfl) ?_; conv => whnf) | (refine Br.no (by first | with_reducible rfl | with_reducible exact bne_self_eq_false _ | rfl) ?_; conv => whnf))
    refine Sm.live [10] ?_
    conv => whnf
    refine Sm.ofW ?_
    conv => whnf
    exact ⟨rfl⟩
  · have e9 : (if y + m = 0 then (1 : Int) else 9) = 9 := if_neg h0
    rw [e9]
    repeat (first | (refine Br.yes (by first | with_reducible rfl | with_reducible exact beq_self_eq_true _ | rfl) ?_; conv => whnf) | (refine Br.no (by first | with_reducible rfl | with_reducible exact bne_self_eq_false _ | rfl) ?_; conv => whnf))
    refine Sm.live [10] ?_
    conv => whnf
    refine Sm.ofW ?_
    conv => whnf
    exact ⟨rfl⟩
end Go.Ev
end

/- EntryKnown walked. No condition. -/
noncomputable section
namespace Go.Ev
open Go.Proofs
variable [Lk]
set_option linter.unusedSectionVars false
set_option linter.unusedVariables false
set_option maxRecDepth 100000

end Go.Ev
end
