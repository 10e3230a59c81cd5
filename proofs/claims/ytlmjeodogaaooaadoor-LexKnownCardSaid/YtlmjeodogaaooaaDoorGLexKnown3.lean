/- Several texts in one: what the law's text leans on, one behind the other. No condition but those that each theorem names. -/
import Derived.Test.YtlmjeodogaaooaaDoorGLexKnown2
/- pyxlaw21.text walked. No condition. -/
noncomputable section
namespace Go.Ev
open Go.Proofs
set_option linter.unusedVariables false
set_option maxRecDepth 100000

def pc20 : Value := .agg #[sv [114, 111, 119, 115], sv [115, 117, 109], sv [119, 104, 101, 114, 101], sv [101, 110, 116, 105, 116, 121], sv [97, 99, 99, 111, 117, 110, 116], sv [97, 109, 111, 117, 110, 116], sv [97, 110, 100], sv [111, 114], sv [110, 111, 116], sv [40], sv [41], sv [61], sv [60], sv [62], sv [49], sv [45, 50, 46, 53, 48], sv [32], sv [32, 32], sv [98, 121], sv [108, 105, 109, 105, 116]]
def pw20 : List (List UInt8) := [[114, 111, 119, 115], [115, 117, 109], [119, 104, 101, 114, 101], [101, 110, 116, 105, 116, 121], [97, 99, 99, 111, 117, 110, 116], [97, 109, 111, 117, 110, 116], [97, 110, 100], [111, 114], [110, 111, 116], [40], [41], [61], [60], [62], [49], [45, 50, 46, 53, 48], [32], [32, 32], [98, 121], [108, 105, 109, 105, 116]]
theorem pc20_at {i : Nat} (h : i < 20) : evIndex Tryd.prog 61 pc20 (.int .i64 (i : Int)) = some (sv (pw20.getD i [])) := by
  by_cases g : i < 10
  · match i, g with
    | 0, _ => rfl
    | 1, _ => rfl
    | 2, _ => rfl
    | 3, _ => rfl
    | 4, _ => rfl
    | 5, _ => rfl
    | 6, _ => rfl
    | 7, _ => rfl
    | 8, _ => rfl
    | 9, _ => rfl
  · obtain ⟨j, rfl⟩ : ∃ j, i = 10 + j := ⟨i - 10, by omega⟩
    have g : j < 10 := by omega
    match j, g with
    | 0, _ => rfl
    | 1, _ => rfl
    | 2, _ => rfl
    | 3, _ => rfl
    | 4, _ => rfl
    | 5, _ => rfl
    | 6, _ => rfl
    | 7, _ => rfl
    | 8, _ => rfl
    | 9, _ => rfl
theorem pw20_len : ∀ i, i < 20 → (pw20.getD i []).length ≤ 7 := by decide +kernel
def pc6 : Value := .agg #[sv [65], sv [45], sv [46], sv [10], sv [49, 46], sv [95]]
def pw6 : List (List UInt8) := [[65], [45], [46], [10], [49, 46], [95]]
theorem pc6_at {i : Nat} (h : i < 6) : evIndex Tryd.prog 62 pc6 (.int .i64 (i : Int)) = some (sv (pw6.getD i [])) := by
  match i, h with
  | 0, _ => rfl
  | 1, _ => rfl
  | 2, _ => rfl
  | 3, _ => rfl
  | 4, _ => rfl
  | 5, _ => rfl
theorem pw6_len : ∀ i, i < 6 → (pw6.getD i []).length ≤ 7 := by decide +kernel
theorem TI : SlT Tryd.prog 32 3 1 8 (.int .i64 0) := ⟨Tryd.underlying32, ⟨_, rfl, rfl, rfl, rfl⟩, rfl, rfl, by decide, by decide⟩
theorem xtext_spec (s : St) {κ : Option Nat} {v : Value} {z : List Int} (hv : Sl s κ v 1 z.length (z.map (Value.int .i64))) (hz : ∀ n ∈ z, inR n) (hzl : z.length ≤ 140737488351232) (raw : List UInt8) (hraw : raw.length ≤ 1048576) :
    Cw Tryd.prog 14 [v, sv raw] s fun r s' => s' = s ∧ ∃ t : List UInt8, r = sv t ∧ t.length ≤ 30 * max 7 raw.length := by
  obtain ⟨a, c, rfl⟩ := hv.shape
  obtain ⟨M, hM⟩ : ∃ M, M = max 7 raw.length := ⟨_, rfl⟩
  have hMl : M ≤ 1048576 := by omega
  refine Cw.enterS Tryd.func14 rfl rfl ?_
  refine Sm.seqW ?_
  conv => whnf
  refine Sm.live [0, 1] ?_
  conv => whnf
  refine Sm.seqW ?_
  conv => whnf
  refine Sm.live [0, 1, 5] ?_
  conv => whnf
  refine Sm.seq ?_
  refine Sm.seqW ?_
  conv => whnf
  refine Sm.live [0, 1, 5, 6] ?_
  conv => whnf
  refine Sm.block ?_
  refine Sm.loop ?_
  refine Lp.ofS (α := Nat × List UInt8) (fun x => [(0, .slice a z.length c), (1, sv raw), (5, sv x.2), (6, .int .i64 (x.1 : Int))])
    (fun x s' => x.1 ≤ 30 ∧ x.2.length ≤ x.1 * M ∧ s' = s) (fun x => 30 - x.1) ?_ (0, []) (subK_ok (by refine ⟨rfl, rfl, rfl, rfl, trivial⟩)) ⟨by decide, by simp, rfl⟩
  rintro ⟨i, t⟩ s2 ⟨hi, ht, rfl⟩
  simp only at hi ht
  have hb : i * M ≤ 30 * M := Nat.mul_le_mul_right M hi
  have fin : ∀ t' : List UInt8, t'.length ≤ t.length + M → i < 30 → t'.length ≤ (i + 1) * M := fun t' h _ => by rw [Nat.add_mul]; omega
  refine Sm.seq ?_
  refine Sm.seqC (fun e L' s' => e = .normal ∧ s' = s2 ∧ Sub [(0, .slice a z.length c), (1, sv raw), (5, sv t), (6, .int .i64 (i : Int)), (15, .bool (decide (i < z.length ∧ i < 30)))] L') ?_ ?_
  · conv => whnf
    repeat' (first | (refine Br.yes (by first | with_reducible rfl | with_reducible assumption) ?_; conv => whnf) | (refine Br.no (by first | with_reducible rfl | with_reducible assumption) ?_; conv => whnf) | (refine Br.mk (fun hq => ?_) (fun hq => ?_) <;> conv => whnf))
    all_goals refine ⟨rfl, rfl, subK_ok ⟨rfl, rfl, rfl, rfl, congrArg (fun x => some (Value.bool x)) ?_, trivial⟩⟩
    all_goals first | exact (decide_eq_false (by simp at *; omega)).symm | exact (decide_eq_true (by simp at *; omega)).symm | exact decide_eq_decide.2 (by simp at *; omega)
  rintro e L' s' ⟨rfl, rfl, hs⟩
  refine Sm.weak _ hs ?_
  clear hs
  refine Sm.ofW ?_
  conv => whnf
  refine Br.mk (fun hc => ?_) (fun hc => ?_)
  · obtain ⟨hc1, hc2⟩ := of_decide_eq_true hc
    conv => whnf
    refine Sm.seqC (fun e L' s'' => e = .normal ∧ s'' = s' ∧ ∃ t' : List UInt8, t'.length ≤ t.length + M ∧ Sub [(0, .slice a z.length c), (1, sv raw), (5, sv t'), (6, .int .i64 (i : Int))] L') ?_ ?_
    · conv => whnf
      obtain ⟨p, y, e1, e2, e3, _, rfl⟩ := index_sl TI Tryd.underlying3 rfl hv .i64 hc1
      obtain rfl : y = .int .i64 z[i] := by simp [hc1] at e2; exact e2.symm
      have hzi := hz z[i] (List.getElem_mem hc1)
      refine Om.of _ (e1) ?_
      conv => whnf
      refine Om.of _ (e3) ?_
      conv => whnf
      refine (pick_spec _ hzi (m := 24) (by decide) (by decide)).mono ?_
      rintro _ s1 ⟨h1, rfl⟩
      obtain rfl := h1.symm
      conv => whnf
      have k1 := Int.emod_nonneg z[i] (show (24 : Int) ≠ 0 by decide)
      have k2 := Int.emod_lt_of_pos z[i] (show (0 : Int) < 24 by decide)
      obtain ⟨K, hK⟩ : ∃ K : Nat, z[i] % 24 = K := ⟨(z[i] % 24).toNat, by omega⟩
      rw [hK]
      refine Br.mk (fun hq => ?_) (fun hq => ?_) <;> conv => whnf
      · have hK20 : K < 20 := by have : (K : Int) < 20 := of_decide_eq_true hq; omega
        have hlen := pw20_len K hK20
        refine Om.of _ (pc20_at hK20) ?_
        conv => whnf
        generalize pw20.getD K [] = pw at *
        refine Om.of _ (str_add ⟨t.toArray⟩ ⟨pw.toArray⟩ (by show t.length + pw.length ≤ _; omega)) ?_
        conv => whnf
        exact ⟨rfl, rfl, t ++ pw, by simp; omega, subK_ok ⟨rfl, rfl, rfl, rfl, trivial⟩⟩
      · refine Br.mk (fun hq2 => ?_) (fun hq2 => ?_) <;> conv => whnf
        · refine Om.of _ (e1) ?_
          conv => whnf
          refine Om.of _ (e3) ?_
          conv => whnf
          refine Om.of _ ((quo_int (P := Tryd.prog) (m := 24) (by decide) hzi).1) ?_
          conv => whnf
          refine (pick_spec _ (quo_int (P := Tryd.prog) (t := 3) (cst := true) (m := 24) (by decide) hzi).2 (m := 6) (by decide) (by decide)).mono ?_
          rintro _ s1 ⟨h1, rfl⟩
          obtain rfl := h1.symm
          conv => whnf
          have j1 := Int.emod_nonneg (z[i].tdiv 24) (show (6 : Int) ≠ 0 by decide)
          have j2 := Int.emod_lt_of_pos (z[i].tdiv 24) (show (0 : Int) < 6 by decide)
          obtain ⟨J, hJ⟩ : ∃ J : Nat, z[i].tdiv 24 % 6 = J := ⟨(z[i].tdiv 24 % 6).toNat, by omega⟩
          rw [hJ]
          have hJ6 : J < 6 := by omega
          have hlen := pw6_len J hJ6
          refine Om.of _ (pc6_at hJ6) ?_
          conv => whnf
          generalize pw6.getD J [] = pw at *
          refine Om.of _ (str_add ⟨t.toArray⟩ ⟨pw.toArray⟩ (by show t.length + pw.length ≤ _; omega)) ?_
          conv => whnf
          exact ⟨rfl, rfl, t ++ pw, by simp; omega, subK_ok ⟨rfl, rfl, rfl, rfl, trivial⟩⟩
        · refine Br.mk (fun hq3 => ?_) (fun hq3 => ?_) <;> conv => whnf
          · refine Om.of _ (str_add ⟨t.toArray⟩ ⟨raw.toArray⟩ (by show t.length + raw.length ≤ _; omega)) ?_
            conv => whnf
            exact ⟨rfl, rfl, t ++ raw, by simp; omega, subK_ok ⟨rfl, rfl, rfl, rfl, trivial⟩⟩
          · refine Om.of _ (str_add ⟨t.toArray⟩ ⟨#[32]⟩ (by show t.length + 1 ≤ _; omega)) ?_
            conv => whnf
            exact ⟨rfl, rfl, t ++ [32], by simp; omega, subK_ok ⟨rfl, rfl, rfl, rfl, trivial⟩⟩
    rintro e L' s'' ⟨rfl, rfl, t', ht', hs⟩
    refine Sm.weak _ hs ?_
    clear hs
    refine Sm.ofW ?_
    conv => whnf
    exact ⟨(i + 1, t'), by (show 30 - (i + 1) < 30 - i); omega, subK_ok (by refine ⟨rfl, rfl, rfl, congrArg (fun x => some (Value.int .i64 x)) (show IntKind.i64.wrap ((i : Int) + 1) = ((i + 1 : Nat) : Int) by rw [wi64 (by omega) (by omega)]; omega), trivial⟩), by (show i + 1 ≤ 30); omega, fin t' ht' hc2, rfl⟩
  · conv => whnf
    refine Sm.seqW ?_
    conv => whnf
    refine Sm.live [4] ?_
    conv => whnf
    refine Sm.ofW ?_
    conv => whnf
    exact ⟨rfl, t, rfl, by rw [← hM]; omega⟩
end Go.Ev
end

/- LexKnown walked. No condition. -/
noncomputable section
namespace Go.Ev
open Go.Proofs
set_option linter.unusedVariables false
set_option maxRecDepth 100000

def lbC : List Value := [sv [97, 32, 65], sv [49, 46, 50, 46, 51], sv [97, 32, 45, 98], sv [49, 46, 32], sv [97, 98, 10], sv [97, 59], sv [120, 32, 49, 50, 51, 52, 53, 54, 55, 56, 57, 48, 49, 50, 51, 52, 53, 54, 55, 56, 57, 48, 49, 50, 51, 52, 53, 54, 55, 56, 57, 48, 49, 50]]
def laC : List Value := [.int .i64 2, .int .i64 0, .int .i64 2, .int .i64 0, .int .i64 2, .int .i64 1, .int .i64 2]
theorem lb0 : tokR [97, 32, 65] = .inr 2 := by kernel_rfl
theorem lb1 : tokR [49, 46, 50, 46, 51] = .inr 0 := by kernel_rfl
theorem lb2 : tokR [97, 32, 45, 98] = .inr 2 := by kernel_rfl
theorem lb3 : tokR [49, 46, 32] = .inr 0 := by kernel_rfl
theorem lb4 : tokR [97, 98, 10] = .inr 2 := by kernel_rfl
theorem lb5 : tokR [97, 59] = .inr 1 := by kernel_rfl
theorem lb6 : tokR [120, 32, 49, 50, 51, 52, 53, 54, 55, 56, 57, 48, 49, 50, 51, 52, 53, 54, 55, 56, 57, 48, 49, 50, 51, 52, 53, 54, 55, 56, 57, 48, 49, 50] = .inr 2 := by kernel_rfl
theorem lb_at {i : Nat} (h : i < 7) : ∃ (l : List UInt8) (k : Nat), evIndex Tryd.prog 26 (.agg lbC.toArray) (.int .i64 (i : Int)) = some (sv l) ∧ tokR l = .inr k ∧ laC[i]? = some (.int .i64 (k : Int)) := by
  match i, h with
  | 0, _ => exact ⟨_, _, rfl, lb0, rfl⟩
  | 1, _ => exact ⟨_, _, rfl, lb1, rfl⟩
  | 2, _ => exact ⟨_, _, rfl, lb2, rfl⟩
  | 3, _ => exact ⟨_, _, rfl, lb3, rfl⟩
  | 4, _ => exact ⟨_, _, rfl, lb4, rfl⟩
  | 5, _ => exact ⟨_, _, rfl, lb5, rfl⟩
  | 6, _ => exact ⟨_, _, rfl, lb6, rfl⟩
def lk1 : List Tok := [⟨4, [], 2⟩]
def lk2 : List Tok := [⟨3, [40], 0⟩, ⟨1, [97], 1⟩, ⟨3, [61], 2⟩, ⟨2, [49], 3⟩, ⟨3, [41], 4⟩, ⟨1, [98], 5⟩, ⟨2, [50], 6⟩, ⟨4, [], 7⟩]
theorem lk1_tok : tokR [32, 32] = .inl lk1 := by kernel_rfl
theorem lk2_tok : tokR [40, 97, 61, 49, 41, 98, 50] = .inl lk2 := by kernel_rfl
theorem lk3_tok : tokR (List.replicate 401 0) = .inr 0 := if_pos (by simp)
theorem lexKnown_walk {s0 : St} (wf : WF s0) : Cw Tryd.prog 3 [] s0 fun r _ => r = .bool true := by
  have hp : Hp (fun _ => False) s0 [] [] s0 := Hp.start _ wf _ (by simp)
  refine Cw.enterS Tryd.func3 rfl rfl ?_
  refine Sm.seqW ?_
  conv => whnf
  refine Sm.seqW ?_
  conv => whnf
  refine hp.call (xtokens_spec hp.wf [32, 32]) ?_
  intro v0 s ha hp1 k1
  rw [lk1_tok] at ha
  obtain ⟨w1, rfl, how⟩ := ha
  obtain ⟨κ1, hp⟩ := hp.on k1 how
  clear hp1 k1 how
  obtain ⟨aw, cw, rfl⟩ := (hp.slF (κ := κ1) (v := w1) (by repeat (first | exact Rm.here | apply Rm.there))).shape
  conv => whnf
  refine Sm.live [1, 3] ?_
  conv => whnf
  refine Sm.seqW ?_
  conv => whnf
  refine hp.alloc (cs := List.replicate 7 (sv [])) (e := 1) rfl rfl rfl rfl rfl ?_
  clear hp
  intro p4 s hp _
  conv => whnf
  refine hp.storeW (vs := lbC) rfl (by repeat (first | exact Rm.here | apply Rm.there)) (by first | exact C2_same _ _ _ _ | exact C4_same _ _ _ _ _ _ _ _ | exact Dc_same _ _ | rfl) rfl rfl rfl ?_
  clear hp
  intro s hp _
  conv => whnf
  refine Sm.live [1, 3, 4] ?_
  conv => whnf
  refine Sm.seqW ?_
  conv => whnf
  refine hp.alloc (cs := List.replicate 7 (.int .i64 0)) (e := 1) rfl rfl rfl rfl rfl ?_
  clear hp
  intro p5 s hp _
  conv => whnf
  refine hp.storeW (vs := laC) rfl (by repeat (first | exact Rm.here | apply Rm.there)) (by first | exact C2_same _ _ _ _ | exact C4_same _ _ _ _ _ _ _ _ | exact Dc_same _ _ | rfl) rfl rfl rfl ?_
  clear hp
  intro s hp _
  conv => whnf
  refine Sm.live [1, 3, 4, 5] ?_
  conv => whnf
  refine Sm.seq ?_
  refine Sm.seqW ?_
  conv => whnf
  refine hp.loadA (l := lbC) (by repeat (first | exact Has.here | apply Has.there | (apply Has.swap; repeat (first | exact HasR.here | apply HasR.there)))) rfl (by rfl) rfl rfl ?_
  conv => whnf
  refine Sm.live [1, 3, 5, 24, 25] ?_
  conv => whnf
  refine Sm.block ?_
  refine Sm.loop ?_
  refine Lp.ofS (α := Nat) (fun i => [(1, .slice aw 1 cw), (3, .int .i64 0), (5, .pointer (some ⟨p5, 0, none⟩)), (24, .agg lbC.toArray), (25, .int .i64 (i : Int))])
    (fun i s' => i ≤ 7 ∧ Hp (fun _ => False) s0 [] [blkA p5 p5 laC 1, onA κ1 (.slice aw 1 cw) 3 1 (tkC lk1)] s') (fun i => 7 - i) ?_ 0 (subK_ok (by refine ⟨rfl, rfl, rfl, rfl, rfl, trivial⟩)) ⟨Nat.zero_le _, hp.pik (by repeat (first | exact Pik.nil | exact Pik.refl _ | exact Rm.here | apply Rm.there | apply Pik.cons | apply Pik.skip))⟩
  clear hp
  rintro i s ⟨hi, hp⟩
  refine Sm.seqW ?_
  conv => whnf
  refine Sm.live [1, 3, 5, 24, 25, 26] ?_
  conv => whnf
  refine Sm.seq ?_
  refine Sm.ofW ?_
  conv => whnf
  refine Br.mk (fun hc => ?_) (fun hc => ?_)
  · have hc : i < 7 := by have : (i : Int) < 7 := of_decide_eq_true hc; omega
    obtain ⟨l, k, hix, htk, hat⟩ := lb_at hc
    conv => whnf
    refine Sm.seqC (fun e L' s' => e = .normal ∧ Hp (fun _ => False) s0 [] [blkA p5 p5 laC 1, onA κ1 (.slice aw 1 cw) 3 1 (tkC lk1)] s' ∧ Sub [(1, .slice aw 1 cw), (3, .int .i64 0), (5, .pointer (some ⟨p5, 0, none⟩)), (24, .agg lbC.toArray), (25, .int .i64 (i : Int))] L') ?_ ?_
    · conv => whnf
      refine Om.of _ (hix) ?_
      conv => whnf
      refine hp.call (xtokens_spec hp.wf l) ?_
      clear hp
      intro v0 s ha hp k1
      rw [htk] at ha
      obtain rfl := (show v0 = .tuple #[.slice none 0 0, .int .i64 (k : Int), .int .i64 2] from ha)
      conv => whnf
      repeat (first | (refine Br.yes (by first | with_reducible rfl | with_reducible exact beq_self_eq_true _ | rfl) ?_; conv => whnf) | (refine Br.no (by first | with_reducible rfl | with_reducible exact bne_self_eq_false _ | rfl) ?_; conv => whnf))
      refine Om.of _ (ixA Tryd.underlying27 (by rfl) rfl .i64 (i := i) (by omega)) ?_
      conv => whnf
      repeat (first | (refine Br.yes (by first | with_reducible rfl | with_reducible exact beq_self_eq_true _ | rfl) ?_; conv => whnf) | (refine Br.no (by first | with_reducible rfl | with_reducible exact bne_self_eq_false _ | rfl) ?_; conv => whnf))
      refine hp.load (v := .int .i64 (k : Int)) (by repeat (first | exact Has.here | apply Has.there | (apply Has.swap; repeat (first | exact HasR.here | apply HasR.there)))) (by rw [Nat.zero_add]; exact hat) rfl rfl rfl ?_
      conv => whnf
      repeat (first | (refine Br.yes (by first | with_reducible rfl | with_reducible exact beq_self_eq_true _ | rfl) ?_; conv => whnf) | (refine Br.no (by first | with_reducible rfl | with_reducible exact bne_self_eq_false _ | rfl) ?_; conv => whnf))
      exact ⟨rfl, hp.pik (by repeat (first | exact Pik.nil | exact Pik.refl _ | exact Rm.here | apply Rm.there | apply Pik.cons | apply Pik.skip)), subK_ok ⟨rfl, rfl, rfl, rfl, rfl, trivial⟩⟩
    clear hp
    rintro e L' s ⟨rfl, hp, hs⟩
    refine Sm.weak _ hs ?_
    clear hs
    refine Sm.ofW ?_
    conv => whnf
    exact ⟨i + 1, by (show 7 - (i + 1) < 7 - i); omega, subK_ok (by refine ⟨rfl, rfl, rfl, rfl, congrArg (fun x => some (Value.int .i64 x)) (show IntKind.i64.wrap ((i : Int) + 1) = ((i + 1 : Nat) : Int) by rw [wi64 (by omega) (by omega)]; omega), trivial⟩), by omega, hp⟩
  · clear hc hi
    conv => whnf
    refine Sm.seqW ?_
    conv => whnf
    refine hp.mks BD rfl 401 rfl rfl (by decide) ?_
    clear hp
    intro bq s hp _
    conv => whnf
    have hsb : Sb s (some bq) (.slice (some ⟨bq, 0, none⟩) 401 401) (List.replicate 401 0) := by
      have h := hp.blkSl (n := 401) (C := List.replicate 401 (.int .u8 0)) (k := bq) (b := bq) (e := 1) (by repeat (first | exact Has.here | apply Has.there | (apply Has.swap; repeat (first | exact HasR.here | apply HasR.there)))) (by simp)
      have e : byteVals (List.replicate 401 0) = List.replicate 401 (Value.int .u8 0) := by simp [byteVals]
      unfold Sb
      rw [e, List.length_replicate]
      exact h
    refine Om.of _ (string_sl Tryd.underlying28 Tryd.underlying9 Tryd.underlying5 hsb) ?_
    conv => whnf
    clear hsb
    refine hp.call (xtokens_spec hp.wf (List.replicate 401 0)) ?_
    clear hp
    intro v0 s ha hp k1
    rw [lk3_tok] at ha
    obtain rfl := (show v0 = .tuple #[.slice none 0 0, .int .i64 0, .int .i64 2] from ha)
    conv => whnf
    refine Sm.live [1, 3, 12, 13] ?_
    conv => whnf
    refine Sm.seqW ?_
    conv => whnf
    refine hp.call (xtokens_spec hp.wf [40, 97, 61, 49, 41, 98, 50]) ?_
    intro v0 s ha hp1 k1
    rw [lk2_tok] at ha
    obtain ⟨w2, rfl, how⟩ := ha
    obtain ⟨κ2, hp⟩ := hp.on k1 how
    clear hp1 k1 how
    obtain ⟨aw2, cw2, rfl⟩ := (hp.slF (κ := κ2) (v := w2) (by repeat (first | exact Rm.here | apply Rm.there))).shape
    conv => whnf
    refine Sm.live [1, 3, 12, 13, 14, 16] ?_
    conv => whnf
    refine Sm.seqW ?_
    conv => whnf
    refine hp.call (xknown_spec hp.wf) ?_
    clear hp
    rintro _ s rfl hp _
    conv => whnf
    obtain ⟨b1, o1, C1, e1, r1, g1⟩ := index_fld TK (hp.slF (κ := κ1) (v := .slice aw 1 cw) (by repeat (first | exact Rm.here | apply Rm.there))) .i64 (i := 0) (by decide)
    obtain ⟨b2, o2, C2, e2, r2, g2⟩ := index_fld TK (hp.slF (κ := κ2) (v := .slice aw2 lk2.length cw2) (by repeat (first | exact Rm.here | apply Rm.there))) .i64 (i := 5) (by decide)
    obtain ⟨b3, o3, C3, e3, r3, g3⟩ := index_fld TK (hp.slF (κ := κ2) (v := .slice aw2 lk2.length cw2) (by repeat (first | exact Rm.here | apply Rm.there))) .i64 (i := 6) (by decide)
    repeat (first | (refine Br.yes (by first | with_reducible rfl | with_reducible exact beq_self_eq_true _ | rfl) ?_; conv => whnf) | (refine Br.no (by first | with_reducible rfl | with_reducible exact bne_self_eq_false _ | rfl) ?_; conv => whnf))
    refine Om.of _ (e1) ?_
    conv => whnf
    repeat (first | (refine Br.yes (by first | with_reducible rfl | with_reducible exact beq_self_eq_true _ | rfl) ?_; conv => whnf) | (refine Br.no (by first | with_reducible rfl | with_reducible exact bne_self_eq_false _ | rfl) ?_; conv => whnf))
    refine Om.of _ (load_cell Tryd.underlying3 rfl rfl r1 (show C1[o1 + 0]? = some (.int .i64 4) from (g1 0 (by decide)).trans rfl)) ?_
    conv => whnf
    repeat (first | (refine Br.yes (by first | with_reducible rfl | with_reducible exact beq_self_eq_true _ | rfl) ?_; conv => whnf) | (refine Br.no (by first | with_reducible rfl | with_reducible exact bne_self_eq_false _ | rfl) ?_; conv => whnf))
    refine Om.of _ (e1) ?_
    conv => whnf
    repeat (first | (refine Br.yes (by first | with_reducible rfl | with_reducible exact beq_self_eq_true _ | rfl) ?_; conv => whnf) | (refine Br.no (by first | with_reducible rfl | with_reducible exact bne_self_eq_false _ | rfl) ?_; conv => whnf))
    refine Om.of _ (load_cell Tryd.underlying3 rfl rfl r1 (show C1[o1 + 2]? = some (.int .i64 2) from (g1 2 (by decide)).trans rfl)) ?_
    conv => whnf
    repeat (first | (refine Br.yes (by first | with_reducible rfl | with_reducible exact beq_self_eq_true _ | rfl) ?_; conv => whnf) | (refine Br.no (by first | with_reducible rfl | with_reducible exact bne_self_eq_false _ | rfl) ?_; conv => whnf))
    refine Om.of _ (e2) ?_
    conv => whnf
    repeat (first | (refine Br.yes (by first | with_reducible rfl | with_reducible exact beq_self_eq_true _ | rfl) ?_; conv => whnf) | (refine Br.no (by first | with_reducible rfl | with_reducible exact bne_self_eq_false _ | rfl) ?_; conv => whnf))
    refine Om.of _ (load_cell Tryd.underlying9 rfl rfl r2 (show C2[o2 + 1]? = some (sv [98]) from (g2 1 (by decide)).trans rfl)) ?_
    conv => whnf
    repeat (first | (refine Br.yes (by first | with_reducible rfl | with_reducible exact beq_self_eq_true _ | rfl) ?_; conv => whnf) | (refine Br.no (by first | with_reducible rfl | with_reducible exact bne_self_eq_false _ | rfl) ?_; conv => whnf))
    refine Om.of _ (sv_eq [98] [98]) ?_
    conv => whnf
    repeat (first | (refine Br.yes (by first | with_reducible rfl | with_reducible exact beq_self_eq_true _ | rfl) ?_; conv => whnf) | (refine Br.no (by first | with_reducible rfl | with_reducible exact bne_self_eq_false _ | rfl) ?_; conv => whnf))
    refine Om.of _ (e3) ?_
    conv => whnf
    repeat (first | (refine Br.yes (by first | with_reducible rfl | with_reducible exact beq_self_eq_true _ | rfl) ?_; conv => whnf) | (refine Br.no (by first | with_reducible rfl | with_reducible exact bne_self_eq_false _ | rfl) ?_; conv => whnf))
    refine Om.of _ (load_cell Tryd.underlying9 rfl rfl r3 (show C3[o3 + 1]? = some (sv [50]) from (g3 1 (by decide)).trans rfl)) ?_
    conv => whnf
    repeat (first | (refine Br.yes (by first | with_reducible rfl | with_reducible exact beq_self_eq_true _ | rfl) ?_; conv => whnf) | (refine Br.no (by first | with_reducible rfl | with_reducible exact bne_self_eq_false _ | rfl) ?_; conv => whnf))
    refine Om.of _ (sv_eq [50] [50]) ?_
    conv => whnf
    repeat (first | (refine Br.yes (by first | with_reducible rfl | with_reducible exact beq_self_eq_true _ | rfl) ?_; conv => whnf) | (refine Br.no (by first | with_reducible rfl | with_reducible exact bne_self_eq_false _ | rfl) ?_; conv => whnf))
    refine Sm.ofW ?_
    conv => whnf
    exact ⟨rfl⟩
end Go.Ev
end
