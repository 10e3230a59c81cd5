/- Several texts in one: what the law's text leans on, one behind the other. No condition but those that each theorem names. -/
import Derived.Test.YtlmjeodogaaooaaDoorGLexTells2
/- pyxlaw21.text walked. No condition. -/
noncomputable section
namespace Go.Ev
open Go.Proofs
set_option linter.unusedVariables false
set_option maxRecDepth 100000

def pc20 : Value := .agg #[sv [114, 111, 119, 115], sv [115, 117, 109], sv [119, 104, 101, 114, 101], sv [101, 110, 116, 105, 116, 121], sv [97, 99, 99, 111, 117, 110, 116], sv [97, 109, 111, 117, 110, 116], sv [97, 110, 100], sv [111, 114], sv [110, 111, 116], sv [40], sv [41], sv [61], sv [60], sv [62], sv [49], sv [45, 50, 46, 53, 48], sv [32], sv [32, 32], sv [98, 121], sv [108, 105, 109, 105, 116]]
def pw20 : List (List UInt8) := [[114, 111, 119, 115], [115, 117, 109], [119, 104, 101, 114, 101], [101, 110, 116, 105, 116, 121], [97, 99, 99, 111, 117, 110, 116], [97, 109, 111, 117, 110, 116], [97, 110, 100], [111, 114], [110, 111, 116], [40], [41], [61], [60], [62], [49], [45, 50, 46, 53, 48], [32], [32, 32], [98, 121], [108, 105, 109, 105, 116]]
theorem pc20_at {i : Nat} (h : i < 20) : evIndex Tryd.prog 61 pc20 (.int .i64 (i : Int)) = some (sv (pw20.getD i [])) := by
  by_cases g : i < 10
  · match i, g with
    | 0, _ => rfl
    | 1, _ => rfl
    | 2, _ => rfl
    | 3, _ => rfl
    | 4, _ => rfl
    | 5, _ => rfl
    | 6, _ => rfl
    | 7, _ => rfl
    | 8, _ => rfl
    | 9, _ => rfl
  · obtain ⟨j, rfl⟩ : ∃ j, i = 10 + j := ⟨i - 10, by omega⟩
    have g : j < 10 := by omega
    match j, g with
    | 0, _ => rfl
    | 1, _ => rfl
    | 2, _ => rfl
    | 3, _ => rfl
    | 4, _ => rfl
    | 5, _ => rfl
    | 6, _ => rfl
    | 7, _ => rfl
    | 8, _ => rfl
    | 9, _ => rfl
theorem pw20_len : ∀ i, i < 20 → (pw20.getD i []).length ≤ 7 := by decide +kernel
def pc6 : Value := .agg #[sv [65], sv [45], sv [46], sv [10], sv [49, 46], sv [95]]
def pw6 : List (List UInt8) := [[65], [45], [46], [10], [49, 46], [95]]
theorem pc6_at {i : Nat} (h : i < 6) : evIndex Tryd.prog 62 pc6 (.int .i64 (i : Int)) = some (sv (pw6.getD i [])) := by
  match i, h with
  | 0, _ => rfl
  | 1, _ => rfl
  | 2, _ => rfl
  | 3, _ => rfl
  | 4, _ => rfl
  | 5, _ => rfl
theorem pw6_len : ∀ i, i < 6 → (pw6.getD i []).length ≤ 7 := by decide +kernel
theorem TI : SlT Tryd.prog 32 3 1 8 (.int .i64 0) := ⟨Tryd.underlying32, ⟨_, rfl, rfl, rfl, rfl⟩, rfl, rfl, by decide, by decide⟩
theorem xtext_spec (s : St) {κ : Option Nat} {v : Value} {z : List Int} (hv : Sl s κ v 1 z.length (z.map (Value.int .i64))) (hz : ∀ n ∈ z, inR n) (hzl : z.length ≤ 140737488351232) (raw : List UInt8) (hraw : raw.length ≤ 1048576) :
    Cw Tryd.prog 14 [v, sv raw] s fun r s' => s' = s ∧ ∃ t : List UInt8, r = sv t ∧ t.length ≤ 30 * max 7 raw.length := by
  obtain ⟨a, c, rfl⟩ := hv.shape
  obtain ⟨M, hM⟩ : ∃ M, M = max 7 raw.length := ⟨_, rfl⟩
  have hMl : M ≤ 1048576 := by omega
  refine Cw.enterS Tryd.func14 rfl rfl ?_
  refine Sm.seqW ?_
  conv => whnf
  refine Sm.live [0, 1] ?_
  conv => whnf
  refine Sm.seqW ?_
  conv => whnf
  refine Sm.live [0, 1, 5] ?_
  conv => whnf
  refine Sm.seq ?_
  refine Sm.seqW ?_
  conv => whnf
  refine Sm.live [0, 1, 5, 6] ?_
  conv => whnf
  refine Sm.block ?_
  refine Sm.loop ?_
  refine Lp.ofS (α := Nat × List UInt8) (fun x => [(0, .slice a z.length c), (1, sv raw), (5, sv x.2), (6, .int .i64 (x.1 : Int))])
    (fun x s' => x.1 ≤ 30 ∧ x.2.length ≤ x.1 * M ∧ s' = s) (fun x => 30 - x.1) ?_ (0, []) (subK_ok (by refine ⟨rfl, rfl, rfl, rfl, trivial⟩)) ⟨by decide, by simp, rfl⟩
  rintro ⟨i, t⟩ s2 ⟨hi, ht, rfl⟩
  simp only at hi ht
  have hb : i * M ≤ 30 * M := Nat.mul_le_mul_right M hi
  have fin : ∀ t' : List UInt8, t'.length ≤ t.length + M → i < 30 → t'.length ≤ (i + 1) * M := fun t' h _ => by rw [Nat.add_mul]; omega
  refine Sm.seq ?_
  refine Sm.seqC (fun e L' s' => e = .normal ∧ s' = s2 ∧ Sub [(0, .slice a z.length c), (1, sv raw), (5, sv t), (6, .int .i64 (i : Int)), (15, .bool (decide (i < z.length ∧ i < 30)))] L') ?_ ?_
  · conv => whnf
    repeat' (first | (refine Br.yes (by first | with_reducible rfl | with_reducible assumption) ?_; conv => whnf) | (refine Br.no (by first | with_reducible rfl | with_reducible assumption) ?_; conv => whnf) | (refine Br.mk (fun hq => ?_) (fun hq => ?_) <;> conv => whnf))
    all_goals refine ⟨rfl, rfl, subK_ok ⟨rfl, rfl, rfl, rfl, congrArg (fun x => some (Value.bool x)) ?_, trivial⟩⟩
    all_goals first | exact (decide_eq_false (by simp at *; omega)).symm | exact (decide_eq_true (by simp at *; omega)).symm | exact decide_eq_decide.2 (by simp at *; omega)
  rintro e L' s' ⟨rfl, rfl, hs⟩
  refine Sm.weak _ hs ?_
  clear hs
  refine Sm.ofW ?_
  conv => whnf
  refine Br.mk (fun hc => ?_) (fun hc => ?_)
  · obtain ⟨hc1, hc2⟩ := of_decide_eq_true hc
    conv => whnf
    refine Sm.seqC (fun e L' s'' => e = .normal ∧ s'' = s' ∧ ∃ t' : List UInt8, t'.length ≤ t.length + M ∧ Sub [(0, .slice a z.length c), (1, sv raw), (5, sv t'), (6, .int .i64 (i : Int))] L') ?_ ?_
    · conv => whnf
      obtain ⟨p, y, e1, e2, e3, _, rfl⟩ := index_sl TI Tryd.underlying3 rfl hv .i64 hc1
      obtain rfl : y = .int .i64 z[i] := by simp [hc1] at e2; exact e2.symm
      have hzi := hz z[i] (List.getElem_mem hc1)
      refine Om.of _ (e1) ?_
      conv => whnf
      refine Om.of _ (e3) ?_
      conv => whnf
      refine (pick_spec _ hzi (m := 24) (by decide) (by decide)).mono ?_
      rintro _ s1 ⟨h1, rfl⟩
      obtain rfl := h1.symm
      conv => whnf
      have k1 := Int.emod_nonneg z[i] (show (24 : Int) ≠ 0 by decide)
      have k2 := Int.emod_lt_of_pos z[i] (show (0 : Int) < 24 by decide)
      obtain ⟨K, hK⟩ : ∃ K : Nat, z[i] % 24 = K := ⟨(z[i] % 24).toNat, by omega⟩
      rw [hK]
      refine Br.mk (fun hq => ?_) (fun hq => ?_) <;> conv => whnf
      · have hK20 : K < 20 := by have : (K : Int) < 20 := of_decide_eq_true hq; omega
        have hlen := pw20_len K hK20
        refine Om.of _ (pc20_at hK20) ?_
        conv => whnf
        generalize pw20.getD K [] = pw at *
        refine Om.of _ (str_add ⟨t.toArray⟩ ⟨pw.toArray⟩ (by show t.length + pw.length ≤ _; omega)) ?_
        conv => whnf
        exact ⟨rfl, rfl, t ++ pw, by simp; omega, subK_ok ⟨rfl, rfl, rfl, rfl, trivial⟩⟩
      · refine Br.mk (fun hq2 => ?_) (fun hq2 => ?_) <;> conv => whnf
        · refine Om.of _ (e1) ?_
          conv => whnf
          refine Om.of _ (e3) ?_
          conv => whnf
          refine Om.of _ ((quo_int (P := Tryd.prog) (m := 24) (by decide) hzi).1) ?_
          conv => whnf
          refine (pick_spec _ (quo_int (P := Tryd.prog) (t := 3) (cst := true) (m := 24) (by decide) hzi).2 (m := 6) (by decide) (by decide)).mono ?_
          rintro _ s1 ⟨h1, rfl⟩
          obtain rfl := h1.symm
          conv => whnf
          have j1 := Int.emod_nonneg (z[i].tdiv 24) (show (6 : Int) ≠ 0 by decide)
          have j2 := Int.emod_lt_of_pos (z[i].tdiv 24) (show (0 : Int) < 6 by decide)
          obtain ⟨J, hJ⟩ : ∃ J : Nat, z[i].tdiv 24 % 6 = J := ⟨(z[i].tdiv 24 % 6).toNat, by omega⟩
          rw [hJ]
          have hJ6 : J < 6 := by omega
          have hlen := pw6_len J hJ6
          refine Om.of _ (pc6_at hJ6) ?_
          conv => whnf
          generalize pw6.getD J [] = pw at *
          refine Om.of _ (str_add ⟨t.toArray⟩ ⟨pw.toArray⟩ (by show t.length + pw.length ≤ _; omega)) ?_
          conv => whnf
          exact ⟨rfl, rfl, t ++ pw, by simp; omega, subK_ok ⟨rfl, rfl, rfl, rfl, trivial⟩⟩
        · refine Br.mk (fun hq3 => ?_) (fun hq3 => ?_) <;> conv => whnf
          · refine Om.of _ (str_add ⟨t.toArray⟩ ⟨raw.toArray⟩ (by show t.length + raw.length ≤ _; omega)) ?_
            conv => whnf
            exact ⟨rfl, rfl, t ++ raw, by simp; omega, subK_ok ⟨rfl, rfl, rfl, rfl, trivial⟩⟩
          · refine Om.of _ (str_add ⟨t.toArray⟩ ⟨#[32]⟩ (by show t.length + 1 ≤ _; omega)) ?_
            conv => whnf
            exact ⟨rfl, rfl, t ++ [32], by simp; omega, subK_ok ⟨rfl, rfl, rfl, rfl, trivial⟩⟩
    rintro e L' s'' ⟨rfl, rfl, t', ht', hs⟩
    refine Sm.weak _ hs ?_
    clear hs
    refine Sm.ofW ?_
    conv => whnf
    exact ⟨(i + 1, t'), by (show 30 - (i + 1) < 30 - i); omega, subK_ok (by refine ⟨rfl, rfl, rfl, congrArg (fun x => some (Value.int .i64 x)) (show IntKind.i64.wrap ((i : Int) + 1) = ((i + 1 : Nat) : Int) by rw [wi64 (by omega) (by omega)]; omega), trivial⟩), by (show i + 1 ≤ 30); omega, fin t' ht' hc2, rfl⟩
  · conv => whnf
    refine Sm.seqW ?_
    conv => whnf
    refine Sm.live [4] ?_
    conv => whnf
    refine Sm.ofW ?_
    conv => whnf
    exact ⟨rfl, t, rfl, by rw [← hM]; omega⟩
end Go.Ev
end

/- LexTells walked. No condition. -/
noncomputable section
namespace Go.Ev
open Go.Proofs
set_option linter.unusedVariables false
set_option maxRecDepth 100000

def rT : List Tok ⊕ Nat → List Tok
  | .inl ts => ts
  | .inr _ => []
def rK : List Tok ⊕ Nat → Nat
  | .inl _ => 0
  | .inr k => k
def rE : List Tok ⊕ Nat → Int
  | .inl _ => 0
  | .inr _ => 2
theorem tok_all {z s' : St} {v : Value} {x : List Tok ⊕ Nat} (h : tokAns z s' v x) : ∃ w, v = .tuple #[w, .int .i64 (rK x : Int), .int .i64 (rE x)] ∧ OwnN z.next s' w 3 (rT x).length (tkC (rT x)) := by
  cases x with
  | inl ts =>
    obtain ⟨w, h1, h2⟩ := h
    exact ⟨w, h1, h2⟩
  | inr k => exact ⟨_, h, ⟨.inl ⟨rfl, rfl, rfl⟩⟩⟩
theorem lexN_len : ∀ (n : Nat) (s : List UInt8) (i : Nat), (rT (lexN n s i)).length ≤ n + 1
  | 0, s, i => by show [_].length ≤ 1; simp
  | n + 1, s, i => by
    simp only [lexN]
    split
    · show [_].length ≤ _; simp
    · split
      · have := lexN_len n s (i + 1); omega
      · split
        · show ([] : List Tok).length ≤ _; simp
        · rename_i t _
          have := lexN_len n s (i + t.text.length)
          split
          · rename_i ts h
            rw [h] at this
            have this : ts.length ≤ n + 1 := this
            show (t :: ts).length ≤ _
            simp; omega
          · show ([] : List Tok).length ≤ _; simp
theorem tokR_short (s : List UInt8) : (rT (tokR s)).length ≤ 401 := by
  unfold tokR
  split
  · show ([] : List Tok).length ≤ _; simp
  · have := lexN_len (s.length - 0) s 0
    show (rT (lexN (s.length - 0) s 0)).length ≤ 401
    omega
theorem lexTells_walk {s0 : St} (wf : WF s0) {v : Value} {z : List Int} (hv : Sl s0 none v 1 z.length (z.map (Value.int .i64))) (hl : z.length ≤ 1048576) (hz : ∀ n ∈ z, inR n) {raw : ByteArray} (hraw : (bs raw).length ≤ 1048576) (any : Bool) :
    Cw Tryd.prog 4 [v, .string raw, .bool any] s0 fun r _ => r = .bool true := by
  rw [sv_bs raw]
  generalize bs raw = raw at *
  obtain ⟨a, c, rfl⟩ := hv.shape
  have hp : Hp (fun _ => False) s0 [slA none (.slice a z.length c) 1 z.length (z.map (Value.int .i64))] [] s0 := Hp.start _ wf _ (by simp; exact hv)
  refine Cw.enterS Tryd.func4 rfl rfl ?_
  refine Sm.seqW ?_
  conv => whnf
  refine Sm.live [0, 1, 2] ?_
  conv => whnf
  refine Sm.seqW ?_
  conv => whnf
  refine (xtext_spec _ hv hz (by omega) raw hraw).mono ?_
  rintro _ s1 ⟨h1, t, rfl, _⟩
  obtain rfl := h1.symm
  conv => whnf
  refine Sm.live [1, 2, 7] ?_
  conv => whnf
  refine Sm.seqC (fun e L' s' => e = .normal ∧ s' = s0 ∧ ∃ t' : List UInt8, Sub [(7, sv t')] L') ?_ ?_
  · conv => whnf
    cases any with
    | true =>
      repeat (first | (refine Br.yes (by first | with_reducible rfl | with_reducible exact beq_self_eq_true _ | rfl) ?_; conv => whnf) | (refine Br.no (by first | with_reducible rfl | with_reducible exact bne_self_eq_false _ | rfl) ?_; conv => whnf))
      exact ⟨rfl, rfl, raw, subK_ok ⟨rfl, trivial⟩⟩
    | false =>
      repeat (first | (refine Br.yes (by first | with_reducible rfl | with_reducible exact beq_self_eq_true _ | rfl) ?_; conv => whnf) | (refine Br.no (by first | with_reducible rfl | with_reducible exact bne_self_eq_false _ | rfl) ?_; conv => whnf))
      exact ⟨rfl, rfl, t, subK_ok ⟨rfl, trivial⟩⟩
  rintro e L' s' ⟨rfl, rfl, t', hs⟩
  refine Sm.weak _ hs ?_
  clear hs
  refine Sm.seqW ?_
  conv => whnf
  refine hp.call (xtokens_spec hp.wf t') ?_
  intro v0 s ha hp1 k1
  obtain ⟨w1, rfl, how⟩ := tok_all ha
  obtain ⟨κ1, hp⟩ := hp.on k1 how
  clear hp1 k1 how ha
  conv => whnf
  refine Sm.live [7, 8, 9, 10] ?_
  conv => whnf
  refine Sm.seqW ?_
  conv => whnf
  refine hp.call (ytokens_spec hp.wf t') ?_
  intro v0 s ha hp1 k1
  obtain ⟨w2, rfl, how⟩ := tok_all ha
  obtain ⟨κ2, hp⟩ := hp.on k1 how
  clear hp1 k1 how ha
  have hX := tokR_short t'
  generalize tokR t' = X at *
  obtain ⟨a1, c1, rfl⟩ := (hp.slF (κ := κ1) (v := w1) (by repeat (first | exact Rm.here | apply Rm.there))).shape
  obtain ⟨a2, c2, rfl⟩ := (hp.slF (κ := κ2) (v := w2) (by repeat (first | exact Rm.here | apply Rm.there))).shape
  conv => whnf
  refine Sm.live [8, 9, 10, 11, 12, 13] ?_
  conv => whnf
  refine Sm.seq ?_
  refine Sm.seqW ?_
  conv => whnf
  refine hp.call (xknown_spec hp.wf) ?_
  clear hp
  rintro _ s rfl hp _
  conv => whnf
  repeat (first | (refine Br.yes (by first | with_reducible rfl | with_reducible exact beq_self_eq_true _ | rfl) ?_; conv => whnf) | (refine Br.no (by first | with_reducible rfl | with_reducible exact bne_self_eq_false _ | rfl) ?_; conv => whnf))
  refine Sm.live [8, 11, 50] ?_
  conv => whnf
  refine Sm.ofW ?_
  conv => whnf
  repeat (first | (refine Br.yes (by first | with_reducible rfl | with_reducible exact beq_self_eq_true _ | rfl) ?_; conv => whnf) | (refine Br.no (by first | with_reducible rfl | with_reducible exact bne_self_eq_false _ | rfl) ?_; conv => whnf))
  refine Sm.seq ?_
  refine Sm.seqW ?_
  conv => whnf
  refine Sm.live [8, 11, 52, 53] ?_
  conv => whnf
  refine Sm.block ?_
  refine Sm.loop ?_
  obtain ⟨n, hn⟩ : ∃ n, n = (rT X).length := ⟨_, rfl⟩
  refine Lp.ofS (α := Nat) (fun i => [(8, .slice a1 (rT X).length c1), (11, .slice a2 (rT X).length c2), (52, .int .i64 (((rT X).length : Nat) : Int)), (53, .int .i64 (i : Int))])
    (fun i s2 => i ≤ (rT X).length ∧ Hp (fun _ => False) s' [slA none (.slice a z.length c) 1 z.length (z.map (Value.int .i64))] [onA κ2 (.slice a2 (rT X).length c2) 3 (rT X).length (tkC (rT X)), onA κ1 (.slice a1 (rT X).length c1) 3 (rT X).length (tkC (rT X))] s2) (fun i => (rT X).length - i) ?_ 0 (subK_ok (by refine ⟨rfl, rfl, rfl, rfl, trivial⟩)) ⟨Nat.zero_le _, hp.pik (by repeat (first | exact Pik.nil | exact Pik.refl _ | exact Rm.here | apply Rm.there | apply Pik.cons | apply Pik.skip))⟩
  clear hp
  rintro i s ⟨hi, hp⟩
  refine Sm.seqW ?_
  conv => whnf
  refine Sm.live [8, 11, 52, 53, 54] ?_
  conv => whnf
  refine Sm.seq ?_
  refine Sm.ofW ?_
  conv => whnf
  refine Br.mk (fun hc => ?_) (fun hc => ?_)
  · have hc : i < (rT X).length := by have : (i : Int) < ((rT X).length : Int) := of_decide_eq_true hc; omega
    obtain ⟨p1, e1, g1⟩ := index_tk (hp.slF (κ := κ1) (v := .slice a1 (rT X).length c1) (by repeat (first | exact Rm.here | apply Rm.there))) .i64 hc
    obtain ⟨p2, e2, g2⟩ := index_tk2 (hp.slF (κ := κ2) (v := .slice a2 (rT X).length c2) (by repeat (first | exact Rm.here | apply Rm.there))) .i64 hc
    conv => whnf
    refine Sm.seqC (fun e L' s' => e = .normal ∧ s' = s ∧ Sub [(8, .slice a1 (rT X).length c1), (11, .slice a2 (rT X).length c2), (52, .int .i64 (((rT X).length : Nat) : Int)), (53, .int .i64 (i : Int))] L') ?_ ?_
    · conv => whnf
      refine ⟨[0, 0, 3, 7, 0, 0, 48, 112, 255], by decide +kernel, by decide +kernel, ?_⟩
      conv => whnf
      refine Om.of _ (e1) ?_
      conv => whnf
      refine Om.of _ (g1) ?_
      conv => whnf
      refine Om.of _ (e2) ?_
      conv => whnf
      refine Om.of _ (g2) ?_
      conv => whnf
      refine Om.of _ (tk_ne (rT X)[i] _) ?_
      conv => whnf
      repeat (first | (refine Br.yes (by first | with_reducible rfl | with_reducible exact beq_self_eq_true _ | rfl) ?_; conv => whnf) | (refine Br.no (by first | with_reducible rfl | with_reducible exact bne_self_eq_false _ | rfl) ?_; conv => whnf))
      exact ⟨rfl, rfl, subK_ok ⟨rfl, rfl, rfl, rfl, trivial⟩⟩
    rintro e L' s' ⟨rfl, rfl, hs⟩
    refine Sm.weak _ hs ?_
    clear hs
    refine Sm.ofW ?_
    conv => whnf
    exact ⟨i + 1, by (show (rT X).length - (i + 1) < (rT X).length - i); omega, subK_ok (by refine ⟨rfl, rfl, rfl, congrArg (fun x => some (Value.int .i64 x)) (show IntKind.i64.wrap ((i : Int) + 1) = ((i + 1 : Nat) : Int) by rw [wi64 (by omega) (by omega)]; omega), trivial⟩), by omega, hp⟩
  · conv => whnf
    refine Sm.seqW ?_
    conv => whnf
    refine Sm.live [6] ?_
    conv => whnf
    refine Sm.ofW ?_
    conv => whnf
    exact ⟨rfl⟩
end Go.Ev
end
