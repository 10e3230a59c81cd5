/- Several texts in one: what the law's text leans on, one behind the other. No condition but those that each theorem names. -/
import Derived.Test.YtlmjeodogaaooaaDoorGLexPlaces2
import Derived.Test.YtlmjeodogaaooaaDoorS6
/- pyxlaw21.text walked. No condition. -/
noncomputable section
namespace Go.Ev
open Go.Proofs
variable [Lk]
set_option linter.unusedSectionVars false
set_option linter.unusedVariables false
set_option maxRecDepth 100000

def pc20 : Value := .agg #[sv [114, 111, 119, 115], sv [115, 117, 109], sv [119, 104, 101, 114, 101], sv [101, 110, 116, 105, 116, 121], sv [97, 99, 99, 111, 117, 110, 116], sv [97, 109, 111, 117, 110, 116], sv [97, 110, 100], sv [111, 114], sv [110, 111, 116], sv [40], sv [41], sv [61], sv [60], sv [62], sv [49], sv [45, 50, 46, 53, 48], sv [32], sv [32, 32], sv [98, 121], sv [108, 105, 109, 105, 116]]
def pw20 : List (List UInt8) := [[114, 111, 119, 115], [115, 117, 109], [119, 104, 101, 114, 101], [101, 110, 116, 105, 116, 121], [97, 99, 99, 111, 117, 110, 116], [97, 109, 111, 117, 110, 116], [97, 110, 100], [111, 114], [110, 111, 116], [40], [41], [61], [60], [62], [49], [45, 50, 46, 53, 48], [32], [32, 32], [98, 121], [108, 105, 109, 105, 116]]
theorem pc20_at {i : Nat} (h : i < 20) : evIndex Tryd.prog 61 pc20 (.int .i64 (i : Int)) = some (sv (pw20.getD i [])) := by
  by_cases g : i < 10
  · match i, g with
    | 0, _ => rfl
    | 1, _ => rfl
    | 2, _ => rfl
    | 3, _ => rfl
    | 4, _ => rfl
    | 5, _ => rfl
    | 6, _ => rfl
    | 7, _ => rfl
    | 8, _ => rfl
    | 9, _ => rfl
  · obtain ⟨j, rfl⟩ : ∃ j, i = 10 + j := ⟨i - 10, by omega⟩
    have g : j < 10 := by omega
    match j, g with
    | 0, _ => rfl
    | 1, _ => rfl
    | 2, _ => rfl
    | 3, _ => rfl
    | 4, _ => rfl
    | 5, _ => rfl
    | 6, _ => rfl
    | 7, _ => rfl
    | 8, _ => rfl
    | 9, _ => rfl
theorem pw20_len : ∀ i, i < 20 → (pw20.getD i []).length ≤ 7 := by decide +kernel
def pc6 : Value := .agg #[sv [65], sv [45], sv [46], sv [10], sv [49, 46], sv [95]]
def pw6 : List (List UInt8) := [[65], [45], [46], [10], [49, 46], [95]]
theorem pc6_at {i : Nat} (h : i < 6) : evIndex Tryd.prog 62 pc6 (.int .i64 (i : Int)) = some (sv (pw6.getD i [])) := by
  match i, h with
  | 0, _ => rfl
  | 1, _ => rfl
  | 2, _ => rfl
  | 3, _ => rfl
  | 4, _ => rfl
  | 5, _ => rfl
theorem pw6_len : ∀ i, i < 6 → (pw6.getD i []).length ≤ 7 := by decide +kernel
theorem TI : SlT Tryd.prog 32 3 1 8 (.int .i64 0) := ⟨Tryd.underlying32, ⟨_, rfl, rfl, rfl, rfl⟩, rfl, rfl, by decide, by decide⟩
theorem xtext_spec (s : St) {κ : Option Nat} {v : Value} {z : List Int} (hv : Sl s κ v 1 z.length (z.map (Value.int .i64))) (hz : ∀ n ∈ z, inR n) (hzl : z.length ≤ 140737488351232) (raw : List UInt8) (hraw : raw.length ≤ 1048576) :
    Cw Tryd.prog 14 [v, sv raw] s fun r s' => s' = s ∧ ∃ t : List UInt8, r = sv t ∧ t.length ≤ 30 * max 7 raw.length := by
  obtain ⟨a, c, rfl⟩ := hv.shape
  obtain ⟨M, hM⟩ : ∃ M, M = max 7 raw.length := ⟨_, rfl⟩
  have hMl : M ≤ 1048576 := by omega
  refine Cw.enterS Tryd.func14 rfl rfl ?_
  refine Sm.seqW ?_
  conv => whnf
  refine Sm.live [0, 1] ?_
  conv => whnf
  refine Sm.seqW ?_
  conv => whnf
  refine Sm.live [0, 1, 5] ?_
  conv => whnf
  refine Sm.seq ?_
  refine Sm.seqW ?_
  conv => whnf
  refine Sm.live [0, 1, 5, 6] ?_
  conv => whnf
  refine Sm.block ?_
  refine Sm.loop ?_
  refine Lp.ofS (α := Nat × List UInt8) (fun x => [(0, .slice a z.length c), (1, sv raw), (5, sv x.2), (6, .int .i64 (x.1 : Int))])
    (fun x s' => x.1 ≤ 30 ∧ x.2.length ≤ x.1 * M ∧ s' = s) (fun x => 30 - x.1) ?_ (0, []) (subK_ok (by refine ⟨rfl, rfl, rfl, rfl, trivial⟩)) ⟨by decide, by simp, rfl⟩
  rintro ⟨i, t⟩ s2 ⟨hi, ht, rfl⟩
  simp only at hi ht
  have hb : i * M ≤ 30 * M := Nat.mul_le_mul_right M hi
  have fin : ∀ t' : List UInt8, t'.length ≤ t.length + M → i < 30 → t'.length ≤ (i + 1) * M := fun t' h _ => by rw [Nat.add_mul]; omega
  refine Sm.seq ?_
  refine Sm.seqC (fun e L' s' => e = .normal ∧ s' = s2 ∧ Sub [(0, .slice a z.length c), (1, sv raw), (5, sv t), (6, .int .i64 (i : Int)), (15, .bool (decide (i < z.length ∧ i < 30)))] L') ?_ ?_
  · conv => whnf
    repeat' (first | (refine Br.yes (by first | with_reducible rfl | with_reducible assumption) ?_; conv => whnf) | (refine Br.no (by first | with_reducible rfl | with_reducible assumption) ?_; conv => whnf) | (refine Br.mk (fun hq => ?_) (fun hq => ?_) <;> conv => whnf))
    all_goals refine ⟨rfl, rfl, subK_ok ⟨rfl, rfl, rfl, rfl, congrArg (fun x => some (Value.bool x)) ?_, trivial⟩⟩
    all_goals first | exact (decide_eq_false (by simp at *; omega)).symm | exact (decide_eq_true (by simp at *; omega)).symm | exact decide_eq_decide.2 (by simp at *; omega)
  rintro e L' s' ⟨rfl, rfl, hs⟩
  refine Sm.weak _ hs ?_
  clear hs
  refine Sm.ofW ?_
  conv => whnf
  refine Br.mk (fun hc => ?_) (fun hc => ?_)
  · obtain ⟨hc1, hc2⟩ := of_decide_eq_true hc
    conv => whnf
    refine Sm.seqC (fun e L' s'' => e = .normal ∧ s'' = s' ∧ ∃ t' : List UInt8, t'.length ≤ t.length + M ∧ Sub [(0, .slice a z.length c), (1, sv raw), (5, sv t'), (6, .int .i64 (i : Int))] L') ?_ ?_
    · conv => whnf
      obtain ⟨p, y, e1, e2, e3, _, rfl⟩ := index_sl TI Tryd.underlying3 rfl hv .i64 hc1
      obtain rfl : y = .int .i64 z[i] := by simp [hc1] at e2; exact e2.symm
      have hzi := hz z[i] (List.getElem_mem hc1)
      refine Om.of _ (e1) ?_
      conv => whnf
      refine Om.of _ (e3) ?_
      conv => whnf
      refine (pick_spec _ hzi (m := 24) (by decide) (by decide)).mono ?_
      rintro _ s1 ⟨h1, rfl⟩
      obtain rfl := h1.symm
      conv => whnf
      have k1 := Int.emod_nonneg z[i] (show (24 : Int) ≠ 0 by decide)
      have k2 := Int.emod_lt_of_pos z[i] (show (0 : Int) < 24 by decide)
      obtain ⟨K, hK⟩ : ∃ K : Nat, z[i] % 24 = K := ⟨(z[i] % 24).toNat, by omega⟩
      rw [hK]
      refine Br.mk (fun hq => ?_) (fun hq => ?_) <;> conv => whnf
      · have hK20 : K < 20 := by have : (K : Int) < 20 := of_decide_eq_true hq; omega
        have hlen := pw20_len K hK20
        refine Om.of _ (pc20_at hK20) ?_
        conv => whnf
        generalize pw20.getD K [] = pw at *
        refine Om.of _ (str_add ⟨t.toArray⟩ ⟨pw.toArray⟩ (by show t.length + pw.length ≤ _; omega)) ?_
        conv => whnf
        exact ⟨rfl, rfl, t ++ pw, by simp; omega, subK_ok ⟨rfl, rfl, rfl, rfl, trivial⟩⟩
      · refine Br.mk (fun hq2 => ?_) (fun hq2 => ?_) <;> conv => whnf
        · refine Om.of _ (e1) ?_
          conv => whnf
          refine Om.of _ (e3) ?_
          conv => whnf
          refine Om.of _ ((quo_int (P := Tryd.prog) (m := 24) (by decide) hzi).1) ?_
          conv => whnf
          refine (pick_spec _ (quo_int (P := Tryd.prog) (t := 3) (cst := true) (m := 24) (by decide) hzi).2 (m := 6) (by decide) (by decide)).mono ?_
          rintro _ s1 ⟨h1, rfl⟩
          obtain rfl := h1.symm
          conv => whnf
          have j1 := Int.emod_nonneg (z[i].tdiv 24) (show (6 : Int) ≠ 0 by decide)
          have j2 := Int.emod_lt_of_pos (z[i].tdiv 24) (show (0 : Int) < 6 by decide)
          obtain ⟨J, hJ⟩ : ∃ J : Nat, z[i].tdiv 24 % 6 = J := ⟨(z[i].tdiv 24 % 6).toNat, by omega⟩
          rw [hJ]
          have hJ6 : J < 6 := by omega
          have hlen := pw6_len J hJ6
          refine Om.of _ (pc6_at hJ6) ?_
          conv => whnf
          generalize pw6.getD J [] = pw at *
          refine Om.of _ (str_add ⟨t.toArray⟩ ⟨pw.toArray⟩ (by show t.length + pw.length ≤ _; omega)) ?_
          conv => whnf
          exact ⟨rfl, rfl, t ++ pw, by simp; omega, subK_ok ⟨rfl, rfl, rfl, rfl, trivial⟩⟩
        · refine Br.mk (fun hq3 => ?_) (fun hq3 => ?_) <;> conv => whnf
          · refine Om.of _ (str_add ⟨t.toArray⟩ ⟨raw.toArray⟩ (by show t.length + raw.length ≤ _; omega)) ?_
            conv => whnf
            exact ⟨rfl, rfl, t ++ raw, by simp; omega, subK_ok ⟨rfl, rfl, rfl, rfl, trivial⟩⟩
          · refine Om.of _ (str_add ⟨t.toArray⟩ ⟨#[32]⟩ (by show t.length + 1 ≤ _; omega)) ?_
            conv => whnf
            exact ⟨rfl, rfl, t ++ [32], by simp; omega, subK_ok ⟨rfl, rfl, rfl, rfl, trivial⟩⟩
    rintro e L' s'' ⟨rfl, rfl, t', ht', hs⟩
    refine Sm.weak _ hs ?_
    clear hs
    refine Sm.ofW ?_
    conv => whnf
    exact ⟨(i + 1, t'), by (show 30 - (i + 1) < 30 - i); omega, subK_ok (by refine ⟨rfl, rfl, rfl, congrArg (fun x => some (Value.int .i64 x)) (show IntKind.i64.wrap ((i : Int) + 1) = ((i + 1 : Nat) : Int) by rw [wi64 (by omega) (by omega)]; omega), trivial⟩), by (show i + 1 ≤ 30); omega, fin t' ht' hc2, rfl⟩
  · conv => whnf
    refine Sm.seqW ?_
    conv => whnf
    refine Sm.live [4] ?_
    conv => whnf
    refine Sm.ofW ?_
    conv => whnf
    exact ⟨rfl, t, rfl, by rw [← hM]; omega⟩
end Go.Ev
end

/- LexTells walked. No condition. -/
noncomputable section
namespace Go.Ev
open Go.Proofs
variable [Lk]
set_option linter.unusedSectionVars false
set_option linter.unusedVariables false
set_option maxRecDepth 100000

def rT : List Tok ⊕ Nat → List Tok
  | .inl ts => ts
  | .inr _ => []
def rK : List Tok ⊕ Nat → Nat
  | .inl _ => 0
  | .inr k => k
def rE : List Tok ⊕ Nat → Int
  | .inl _ => 0
  | .inr _ => 2
theorem tok_all {z s' : St} {v : Value} {x : List Tok ⊕ Nat} (h : tokAns z s' v x) : ∃ w, v = .tuple #[w, .int .i64 (rK x : Int), .int .i64 (rE x)] ∧ OwnN z.next s' w 3 (rT x).length (tkC (rT x)) := by
  cases x with
  | inl ts =>
    obtain ⟨w, h1, h2⟩ := h
    exact ⟨w, h1, h2⟩
  | inr k => exact ⟨_, h, ⟨.inl ⟨rfl, rfl, rfl⟩⟩⟩
theorem lexN_len : ∀ (n : Nat) (s : List UInt8) (i : Nat), (rT (lexN n s i)).length ≤ n + 1
  | 0, s, i => by show [_].length ≤ 1; simp
  | n + 1, s, i => by
    simp only [lexN]
    split
    · show [_].length ≤ _; simp
    · split
      · have := lexN_len n s (i + 1); omega
      · split
        · show ([] : List Tok).length ≤ _; simp
        · rename_i t _
          have := lexN_len n s (i + t.text.length)
          split
          · rename_i ts h
            rw [h] at this
            have this : ts.length ≤ n + 1 := this
            show (t :: ts).length ≤ _
            simp; omega
          · show ([] : List Tok).length ≤ _; simp
theorem tokR_short (s : List UInt8) : (rT (tokR s)).length ≤ 401 := by
  unfold tokR
  split
  · show ([] : List Tok).length ≤ _; simp
  · have := lexN_len (s.length - 0) s 0
    show (rT (lexN (s.length - 0) s 0)).length ≤ 401
    omega
theorem lexTells_walk {s0 : St} (wf : WF s0) {v : Value} {z : List Int} (hv : Sl s0 none v 1 z.length (z.map (Value.int .i64))) (hl : z.length ≤ 1048576) (hz : ∀ n ∈ z, inR n) {raw : ByteArray} (hraw : (bs raw).length ≤ 1048576) (any : Bool) :
    Cw Tryd.prog 4 [v, .string raw, .bool any] s0 fun r _ => r = .bool true := by
  rw [sv_bs raw]
  generalize bs raw = raw at *
  obtain ⟨a, c, rfl⟩ := hv.shape
  have hp : Hp (fun _ => False) s0 [slA none (.slice a z.length c) 1 z.length (z.map (Value.int .i64))] [] s0 := Hp.start _ wf _ (by simp; exact hv)
  refine Cw.enterS Tryd.func4 rfl rfl ?_
  refine Sm.seqW ?_
  conv => whnf
  refine Sm.live [0, 1, 2] ?_
  conv => whnf
  refine Sm.seqW ?_
  conv => whnf
  refine (xtext_spec _ hv hz (by omega) raw hraw).mono ?_
  rintro _ s1 ⟨h1, t, rfl, _⟩
  obtain rfl := h1.symm
  conv => whnf
  refine Sm.live [1, 2, 7] ?_
  conv => whnf
  refine Sm.seqC (fun e L' s' => e = .normal ∧ s' = s0 ∧ ∃ t' : List UInt8, Sub [(7, sv t')] L') ?_ ?_
  · conv => whnf
    cases any with
    | true =>
      repeat (first | (refine Br.yes (by first | with_reducible rfl | with_reducible exact beq_self_eq_true _ | rfl) ?_; conv => whnf) | (refine Br.no (by first | with_reducible rfl | with_reducible exact bne_self_eq_false _ | rfl) ?_; conv => whnf))
      exact ⟨rfl, rfl, raw, subK_ok ⟨rfl, trivial⟩⟩
    | false =>
      repeat (first | (refine Br.yes (by first | with_reducible rfl | with_reducible exact beq_self_eq_true _ | rfl) ?_; conv => whnf) | (refine Br.no (by first | with_reducible rfl | with_reducible exact bne_self_eq_false _ | rfl) ?_; conv => whnf))
      exact ⟨rfl, rfl, t, subK_ok ⟨rfl, trivial⟩⟩
  rintro e L' s' ⟨rfl, rfl, t', hs⟩
  refine Sm.weak _ hs ?_
  clear hs
  refine Sm.seqW ?_
  conv => whnf
  refine hp.call (xtokens_spec hp.wf t') ?_
  intro v0 s ha hp1 k1
  obtain ⟨w1, rfl, how⟩ := tok_all ha
  obtain ⟨κ1, hp⟩ := hp.on k1 how
  clear hp1 k1 how ha
  conv => whnf
  refine Sm.live [7, 8, 9, 10] ?_
  conv => whnf
  refine Sm.seqW ?_
  conv => whnf
  refine hp.call (ytokens_spec hp.wf t') ?_
  intro v0 s ha hp1 k1
  obtain ⟨w2, rfl, how⟩ := tok_all ha
  obtain ⟨κ2, hp⟩ := hp.on k1 how
  clear hp1 k1 how ha
  have hX := tokR_short t'
  generalize tokR t' = X at *
  obtain ⟨a1, c1, rfl⟩ := (hp.slF (κ := κ1) (v := w1) (by repeat (first | exact Rm.here | apply Rm.there))).shape
  obtain ⟨a2, c2, rfl⟩ := (hp.slF (κ := κ2) (v := w2) (by repeat (first | exact Rm.here | apply Rm.there))).shape
  conv => whnf
  refine Sm.live [8, 9, 10, 11, 12, 13] ?_
  conv => whnf
  refine Sm.seq ?_
  refine Sm.seqW ?_
  conv => whnf
  refine hp.call (xknown_spec hp.wf) ?_
  clear hp
  rintro _ s rfl hp _
  conv => whnf
  repeat (first | (refine Br.yes (by first | with_reducible rfl | with_reducible exact beq_self_eq_true _ | rfl) ?_; conv => whnf) | (refine Br.no (by first | with_reducible rfl | with_reducible exact bne_self_eq_false _ | rfl) ?_; conv => whnf))
  refine Sm.live [8, 11, 50] ?_
  conv => whnf
  refine Sm.ofW ?_
  conv => whnf
  repeat (first | (refine Br.yes (by first | with_reducible rfl | with_reducible exact beq_self_eq_true _ | rfl) ?_; conv => whnf) | (refine Br.no (by first | with_reducible rfl | with_reducible exact bne_self_eq_false _ | rfl) ?_; conv => whnf))
  refine Sm.seq ?_
  refine Sm.seqW ?_
  conv => whnf
  refine Sm.live [8, 11, 52, 53] ?_
  conv => whnf
  refine Sm.block ?_
  refine Sm.loop ?_
  obtain ⟨n, hn⟩ : ∃ n, n = (rT X).length := ⟨_, rfl⟩
  refine Lp.ofS (α := Nat) (fun i => [(8, .slice a1 (rT X).length c1), (11, .slice a2 (rT X).length c2), (52, .int .i64 (((rT X).length : Nat) : Int)), (53, .int .i64 (i : Int))])
    (fun i s2 => i ≤ (rT X).length ∧ Hp (fun _ => False) s' [slA none (.slice a z.length c) 1 z.length (z.map (Value.int .i64))] [onA κ2 (.slice a2 (rT X).length c2) 3 (rT X).length (tkC (rT X)), onA κ1 (.slice a1 (rT X).length c1) 3 (rT X).length (tkC (rT X))] s2) (fun i => (rT X).length - i) ?_ 0 (subK_ok (by refine ⟨rfl, rfl, rfl, rfl, trivial⟩)) ⟨Nat.zero_le _, hp.pik (by repeat (first | exact Pik.nil | exact Pik.refl _ | exact Rm.here | apply Rm.there | apply Pik.cons | apply Pik.skip))⟩
  clear hp
  rintro i s ⟨hi, hp⟩
  refine Sm.seqW ?_
  conv => whnf
  refine Sm.live [8, 11, 52, 53, 54] ?_
  conv => whnf
  refine Sm.seq ?_
  refine Sm.ofW ?_
  conv => whnf
  refine Br.mk (fun hc => ?_) (fun hc => ?_)
  · have hc : i < (rT X).length := by have : (i : Int) < ((rT X).length : Int) := of_decide_eq_true hc; omega
    obtain ⟨p1, e1, g1⟩ := index_tk (hp.slF (κ := κ1) (v := .slice a1 (rT X).length c1) (by repeat (first | exact Rm.here | apply Rm.there))) .i64 hc
    obtain ⟨p2, e2, g2⟩ := index_tk2 (hp.slF (κ := κ2) (v := .slice a2 (rT X).length c2) (by repeat (first | exact Rm.here | apply Rm.there))) .i64 hc
    conv => whnf
    refine Sm.seqC (fun e L' s' => e = .normal ∧ s' = s ∧ Sub [(8, .slice a1 (rT X).length c1), (11, .slice a2 (rT X).length c2), (52, .int .i64 (((rT X).length : Nat) : Int)), (53, .int .i64 (i : Int))] L') ?_ ?_
    · conv => whnf
      refine ⟨[0, 0, 3, 7, 0, 0, 48, 112, 255], by decide +kernel, by decide +kernel, ?_⟩
      conv => whnf
      refine Om.of _ (e1) ?_
      conv => whnf
      refine Om.of _ (g1) ?_
      conv => whnf
      refine Om.of _ (e2) ?_
      conv => whnf
      refine Om.of _ (g2) ?_
      conv => whnf
      refine Om.of _ (tk_ne (rT X)[i] _) ?_
      conv => whnf
      repeat (first | (refine Br.yes (by first | with_reducible rfl | with_reducible exact beq_self_eq_true _ | rfl) ?_; conv => whnf) | (refine Br.no (by first | with_reducible rfl | with_reducible exact bne_self_eq_false _ | rfl) ?_; conv => whnf))
      exact ⟨rfl, rfl, subK_ok ⟨rfl, rfl, rfl, rfl, trivial⟩⟩
    rintro e L' s' ⟨rfl, rfl, hs⟩
    refine Sm.weak _ hs ?_
    clear hs
    refine Sm.ofW ?_
    conv => whnf
    exact ⟨i + 1, by (show (rT X).length - (i + 1) < (rT X).length - i); omega, subK_ok (by refine ⟨rfl, rfl, rfl, congrArg (fun x => some (Value.int .i64 x)) (show IntKind.i64.wrap ((i : Int) + 1) = ((i + 1 : Nat) : Int) by rw [wi64 (by omega) (by omega)]; omega), trivial⟩), by omega, hp⟩
  · conv => whnf
    refine Sm.seqW ?_
    conv => whnf
    refine Sm.live [6] ?_
    conv => whnf
    refine Sm.ofW ?_
    conv => whnf
    exact ⟨rfl⟩
end Go.Ev
end

/- Tokens of texts that stand behind others, without a program. No condition. -/
noncomputable section
namespace Go.Ev
open Go.Proofs
variable [Lk]
set_option linter.unusedSectionVars false
set_option linter.unusedVariables false
set_option maxRecDepth 100000

def Tok.sh (n : Nat) (t : Tok) : Tok := ⟨t.kind, t.text, n + t.at_⟩
theorem tw_stop (p : UInt8 → Bool) (h : p 32 = false) (r rest : List UInt8) : (r ++ 32 :: rest).takeWhile p = r.takeWhile p := by
  induction r with
  | nil => rw [List.nil_append, List.takeWhile_cons_of_neg (by rw [h]; decide)]; rfl
  | cons x r ih =>
    rw [List.cons_append]
    cases hx : p x with
    | true => rw [List.takeWhile_cons_of_pos hx, List.takeWhile_cons_of_pos hx, ih]
    | false => rw [List.takeWhile_cons_of_neg (by rw [hx]; decide), List.takeWhile_cons_of_neg (by rw [hx]; decide)]
theorem numAt_stop (c : UInt8) (r rest : List UInt8) : numAt c (r ++ 32 :: rest) = numAt c r := by
  cases r with
  | nil => rfl
  | cons x r => rfl
theorem one_stop (c : UInt8) (r rest : List UInt8) (i n : Nat) : oneL c (r ++ 32 :: rest) (n + i) = (oneL c r i).map (Tok.sh n) := by
  unfold oneL
  rw [tw_stop isL rfl, tw_stop isP rfl, numAt_stop]
  split
  · rfl
  · split
    · split <;> rfl
    · split <;> rfl
theorem one_sh (c : UInt8) (r : List UInt8) (i n : Nat) : oneL c r (n + i) = (oneL c r i).map (Tok.sh n) := by
  unfold oneL
  split
  · rfl
  · split
    · split <;> rfl
    · split <;> rfl
theorem lex_suffix (P t : List UInt8) : ∀ (m i : Nat), t.length - i ≤ m → i ≤ t.length → ∀ ts, lexF t i = .inl ts → lexF (P ++ t) (P.length + i) = .inl (ts.map (Tok.sh P.length)) := by
  intro m
  induction m with
  | zero =>
    intro i h hi ts hts
    rw [lexF_end (by omega)] at hts
    rw [lexF_end (by simp; omega)]
    injection hts with hts
    rw [← hts]; rfl
  | succ m ih =>
    intro i h hi ts hts
    by_cases hlt : i < t.length
    · obtain ⟨c, r, hd⟩ : ∃ c r, t.drop i = c :: r := ⟨_, _, List.drop_eq_getElem_cons hlt⟩
      have hd2 : (P ++ t).drop (P.length + i) = c :: r := by rw [← hd]; simp [List.drop_append]
      by_cases hc : c = 32
      · rw [lexF_blank hd hc] at hts
        rw [lexF_blank hd2 hc, Nat.add_assoc]
        exact ih (i + 1) (by omega) (by omega) ts hts
      · cases ho : oneL c r i with
        | none => rw [lexF_bad hd hc ho] at hts; cases hts
        | some x =>
          have ho2 : oneL c r (P.length + i) = some (x.sh P.length) := by rw [one_sh, ho]; rfl
          obtain ⟨t1, t2, t3, t4, t5⟩ := oneL_text ho
          have hrl : t.length - i = r.length + 1 := by have := congrArg List.length hd; simpa using this
          have : 0 < x.text.length := List.length_pos_iff.2 t2
          rw [lexF_tok hd hc ho] at hts
          rw [lexF_tok hd2 hc ho2]
          have hn : P.length + i + (x.sh P.length).text.length = P.length + (i + x.text.length) := by show P.length + i + x.text.length = _; omega
          rw [hn]
          cases hx : lexF t (i + x.text.length) with
          | inr k => rw [hx] at hts; cases hts
          | inl us =>
            rw [hx] at hts
            injection hts with hts
            rw [ih (i + x.text.length) (by omega) (by omega) us hx, ← hts]; rfl
    · rw [lexF_end (by omega)] at hts
      rw [lexF_end (by simp; omega)]
      injection hts with hts
      rw [← hts]
      have : i = t.length := by omega
      rfl
theorem lex_stop (P s rest : List UInt8) : ∀ (m i : Nat), s.length - i ≤ m → i ≤ s.length →
    (∀ k, lexF s i = .inr k → lexF (P ++ (s ++ 32 :: rest)) (P.length + i) = .inr (P.length + k)) ∧
    (∀ ts, lexF s i = .inl ts → ∃ us, ts = us ++ [⟨4, [], s.length⟩] ∧ lexF (P ++ (s ++ 32 :: rest)) (P.length + i) = afterR (us.map (Tok.sh P.length)) (lexF (P ++ (s ++ 32 :: rest)) (P.length + s.length))) := by
  intro m
  have base : ∀ i, i = s.length → (∀ k, lexF s i = .inr k → lexF (P ++ (s ++ 32 :: rest)) (P.length + i) = .inr (P.length + k)) ∧
    (∀ ts, lexF s i = .inl ts → ∃ us, ts = us ++ [⟨4, [], s.length⟩] ∧ lexF (P ++ (s ++ 32 :: rest)) (P.length + i) = afterR (us.map (Tok.sh P.length)) (lexF (P ++ (s ++ 32 :: rest)) (P.length + s.length))) := by
    intro i hi
    subst hi
    rw [lexF_end (Nat.le_refl _)]
    refine ⟨fun k hk => by (cases hk), fun ts hts => ⟨[], by injection hts with hts; rw [← hts]; rfl, ?_⟩⟩
    cases lexF (P ++ (s ++ 32 :: rest)) (P.length + s.length) <;> rfl
  induction m with
  | zero => intro i h hi; exact base i (by omega)
  | succ m ih =>
    intro i h hi
    by_cases hlt : i < s.length
    · obtain ⟨c, r, hd⟩ : ∃ c r, s.drop i = c :: r := ⟨_, _, List.drop_eq_getElem_cons hlt⟩
      have hd2 : (P ++ (s ++ 32 :: rest)).drop (P.length + i) = c :: (r ++ 32 :: rest) := by
        rw [← List.cons_append, ← hd, List.drop_append, List.drop_eq_nil_of_le (by omega), List.nil_append, show P.length + i - P.length = i by omega, List.drop_append_of_le_length hi]
      by_cases hc : c = 32
      · rw [lexF_blank hd hc, lexF_blank hd2 hc, Nat.add_assoc]
        exact ih (i + 1) (by omega) (by omega)
      · cases ho : oneL c r i with
        | none =>
          have ho2 : oneL c (r ++ 32 :: rest) (P.length + i) = none := by rw [one_stop, ho]; rfl
          rw [lexF_bad hd hc ho, lexF_bad hd2 hc ho2]
          exact ⟨fun k hk => by injection hk with hk; rw [hk], fun ts hts => by (cases hts)⟩
        | some x =>
          have ho2 : oneL c (r ++ 32 :: rest) (P.length + i) = some (x.sh P.length) := by rw [one_stop, ho]; rfl
          obtain ⟨t1, t2, t3, t4, t5⟩ := oneL_text ho
          have hrl : s.length - i = r.length + 1 := by have := congrArg List.length hd; simpa using this
          have : 0 < x.text.length := List.length_pos_iff.2 t2
          have hn : P.length + i + (x.sh P.length).text.length = P.length + (i + x.text.length) := by show P.length + i + x.text.length = _; omega
          rw [lexF_tok hd hc ho, lexF_tok hd2 hc ho2, hn]
          obtain ⟨g1, g2⟩ := ih (i + x.text.length) (by omega) (by omega)
          cases hx : lexF s (i + x.text.length) with
          | inr k' =>
            rw [g1 k' hx]
            exact ⟨fun k hk => by injection hk with hk; rw [hk], fun ts hts => by (cases hts)⟩
          | inl us' =>
            obtain ⟨us, e1, e2⟩ := g2 us' hx
            refine ⟨fun k hk => by (cases hk), fun ts hts => ⟨x :: us, ?_, ?_⟩⟩
            · injection hts with hts; rw [← hts, e1]; rfl
            · rw [e2]
              cases lexF (P ++ (s ++ 32 :: rest)) (P.length + s.length) <;> rfl
    · exact base i (by omega)
theorem lex_blanks (X : List UInt8) : ∀ (k j : Nat) (Y : List UInt8), X.drop j = List.replicate k 32 ++ Y → lexF X j = lexF X (j + k)
  | 0, j, Y, _ => rfl
  | k + 1, j, Y, h => by
    have h1 : X.drop j = 32 :: (List.replicate k 32 ++ Y) := by rw [h, List.replicate_succ]; rfl
    rw [lexF_blank h1 rfl, lex_blanks X k (j + 1) Y (by rw [← List.drop_drop, h1]; rfl), show j + 1 + k = j + (k + 1) by omega]
/-- Blanks, a text, blanks, a text. -/
theorem lex_join {s t : List UInt8} {k : Nat} (hk : 0 < k) :
    (∀ e, lexF s 0 = .inr e → ∃ e', lexF (List.replicate k 32 ++ (s ++ (List.replicate k 32 ++ t))) 0 = .inr e') ∧
    (∀ us ts, lexF s 0 = .inl us → lexF t 0 = .inl ts → ∃ us', us = us' ++ [⟨4, [], s.length⟩] ∧
      lexF (List.replicate k 32 ++ (s ++ (List.replicate k 32 ++ t))) 0 = .inl (us'.map (Tok.sh k) ++ ts.map (Tok.sh (s.length + 2 * k)))) := by
  obtain ⟨m, rfl⟩ : ∃ m, k = m + 1 := ⟨k - 1, by omega⟩
  have hX : lexF (List.replicate (m + 1) 32 ++ (s ++ (List.replicate (m + 1) 32 ++ t))) 0 = lexF (List.replicate (m + 1) 32 ++ (s ++ (List.replicate (m + 1) 32 ++ t))) (m + 1) := by
    have := lex_blanks (List.replicate (m + 1) 32 ++ (s ++ (List.replicate (m + 1) 32 ++ t))) (m + 1) 0 _ rfl
    rwa [Nat.zero_add] at this
  have hstop := lex_stop (List.replicate (m + 1) 32) s (List.replicate m 32 ++ t) s.length 0 (by omega) (by omega)
  have e1 : s ++ 32 :: (List.replicate m 32 ++ t) = s ++ (List.replicate (m + 1) 32 ++ t) := by rw [List.replicate_succ]; rfl
  rw [e1, List.length_replicate, Nat.add_zero] at hstop
  rw [hX]
  refine ⟨fun e he => ⟨_, hstop.1 e he⟩, fun us ts hus hts => ?_⟩
  obtain ⟨us', h1, h2⟩ := hstop.2 us hus
  refine ⟨us', h1, ?_⟩
  rw [h2]
  have hd : (List.replicate (m + 1) 32 ++ (s ++ (List.replicate (m + 1) 32 ++ t))).drop (m + 1 + s.length) = List.replicate (m + 1) 32 ++ t := by
    rw [List.drop_append, List.drop_eq_nil_of_le (by simp), List.nil_append, List.length_replicate, show m + 1 + s.length - (m + 1) = s.length by omega, List.drop_append, List.drop_eq_nil_of_le (by omega), List.nil_append, Nat.sub_self, List.drop_zero]
  rw [lex_blanks _ (m + 1) (m + 1 + s.length) t hd]
  have e2 : List.replicate (m + 1) 32 ++ (s ++ (List.replicate (m + 1) 32 ++ t)) = (List.replicate (m + 1) 32 ++ (s ++ List.replicate (m + 1) 32)) ++ t := by simp
  have hlen : (List.replicate (m + 1) (32 : UInt8) ++ (s ++ List.replicate (m + 1) 32)).length = s.length + 2 * (m + 1) := by simp; omega
  have := lex_suffix (List.replicate (m + 1) 32 ++ (s ++ List.replicate (m + 1) 32)) t t.length 0 (by omega) (by omega) ts hts
  simp only [hlen, Nat.add_zero] at this
  rw [e2, show m + 1 + s.length + (m + 1) = s.length + 2 * (m + 1) by omega, this]
  rfl
end Go.Ev
end

/- LexBlanks walked. No condition. -/
noncomputable section
namespace Go.Ev
open Go.Proofs
variable [Lk]
set_option linter.unusedSectionVars false
set_option linter.unusedVariables false
set_option maxRecDepth 100000

theorem six_take {k : Nat} (h : k ≤ 6) : ([32, 32, 32, 32, 32, 32] : List UInt8).take k = List.replicate k 32 := by
  match k, h with
  | 0, _ => rfl
  | 1, _ => rfl
  | 2, _ => rfl
  | 3, _ => rfl
  | 4, _ => rfl
  | 5, _ => rfl
  | 6, _ => rfl
theorem lex_at : ∀ (n : Nat) (s : List UInt8) (i : Nat), i ≤ s.length → ∀ t ∈ rT (lexN n s i), t.at_ ≤ s.length
  | 0, s, i, hi, t, ht => by
    rw [List.mem_singleton.1 (show t ∈ [Tok.mk 4 [] i] from ht)]; exact hi
  | n + 1, s, i, hi, t, ht => by
    simp only [lexN] at ht
    cases hd : s.drop i with
    | nil =>
      rw [hd] at ht
      rw [List.mem_singleton.1 (show t ∈ [Tok.mk 4 [] i] from ht)]; exact hi
    | cons c r =>
      have hrl : s.length - i = r.length + 1 := by have := congrArg List.length hd; simpa using this
      rw [hd] at ht
      by_cases hc : c = 32
      · simp only [hc, if_true] at ht
        exact lex_at n s (i + 1) (by omega) t ht
      · simp only [hc, if_false] at ht
        cases ho : oneL c r i with
        | none => rw [ho] at ht; exact absurd (show t ∈ ([] : List Tok) from ht) (by simp)
        | some x =>
          obtain ⟨t1, t2, t3, t4, t5⟩ := oneL_text ho
          rw [ho] at ht
          simp only at ht
          have ih := lex_at n s (i + x.text.length) (by omega)
          cases hx : lexN n s (i + x.text.length) with
          | inr k => rw [hx] at ht; exact absurd (show t ∈ ([] : List Tok) from ht) (by simp)
          | inl us =>
            rw [hx] at ht ih
            rcases List.mem_cons.1 (show t ∈ x :: us from ht) with rfl | g
            · omega
            · exact ih t g
theorem sh_cells (T : Tok) (n : Nat) {x : Int} (h : x = ((n + T.at_ : Nat) : Int)) : T.cells.set 2 (.int .i64 x) = (T.sh n).cells := by rw [h]; rfl
theorem lexBlanks_walk {s0 : St} (wf : WF s0) {v : Value} {z : List Int} (hv : Sl s0 none v 1 z.length (z.map (Value.int .i64))) (hl : z.length ≤ 140737488351232) (hz : ∀ n ∈ z, inR n)
    {w : Value} {u : List Int} (hw : Sl s0 none w 1 u.length (u.map (Value.int .i64))) (hlu : u.length ≤ 140737488351232) (hu : ∀ n ∈ u, inR n) {gap : Int} (hg : inR gap) :
    Cw Tryd.prog 6 [v, w, .int .i64 gap] s0 fun r _ => r = .bool true := by
  obtain ⟨a, c, rfl⟩ := hv.shape
  obtain ⟨a', c', rfl⟩ := hw.shape
  have hp : Hp (fun _ => False) s0 [] [] s0 := Hp.start _ wf _ (by simp)
  refine Cw.enterS Tryd.func6 rfl rfl ?_
  refine Sm.seqW ?_
  conv => whnf
  refine Sm.live [0, 1, 2] ?_
  conv => whnf
  refine Sm.seqW ?_
  conv => whnf
  refine (xtext_spec _ hv hz (by omega) [] (by decide)).mono ?_
  rintro _ s1 ⟨h1, xs, rfl, hs⟩
  obtain rfl := h1.symm
  have hs : xs.length ≤ 210 := hs
  conv => whnf
  refine Sm.live [1, 2, 7] ?_
  conv => whnf
  refine Sm.seqW ?_
  conv => whnf
  refine (xtext_spec _ hw hu (by omega) [] (by decide)).mono ?_
  rintro _ s1 ⟨h1, t, rfl, ht⟩
  obtain rfl := h1.symm
  have ht : t.length ≤ 210 := ht
  conv => whnf
  refine Sm.live [2, 7, 8] ?_
  conv => whnf
  refine Sm.seqW ?_
  conv => whnf
  refine hp.call (xtokens_spec hp.wf xs) ?_
  intro v0 sa ha hp1 k1
  obtain ⟨w1, rfl, how⟩ := tok_all ha
  obtain ⟨κ1, hp⟩ := hp.on k1 how
  clear hp1 k1 how ha
  conv => whnf
  refine Sm.live [2, 7, 8, 9, 11] ?_
  conv => whnf
  refine Sm.seqW ?_
  conv => whnf
  refine hp.call (xtokens_spec hp.wf t) ?_
  intro v0 sb ha hp1 k1
  obtain ⟨w2, rfl, how⟩ := tok_all ha
  obtain ⟨κ2, hp⟩ := hp.on k1 how
  clear hp1 k1 how ha
  conv => whnf
  refine Sm.live [2, 7, 8, 9, 11, 12, 14] ?_
  conv => whnf
  refine Sm.seqW ?_
  conv => whnf
  refine (pick_spec _ hg (m := 5) (by decide) (by decide)).mono ?_
  rintro _ s1 ⟨h1, rfl⟩
  obtain rfl := h1.symm
  conv => whnf
  have k1 := Int.emod_nonneg gap (show (5 : Int) ≠ 0 by decide)
  have k2 := Int.emod_lt_of_pos gap (show (0 : Int) < 5 by decide)
  obtain ⟨k, hk⟩ : ∃ k : Nat, 1 + gap % 5 = k := ⟨(1 + gap % 5).toNat, by omega⟩
  have ek : IntKind.i64.wrap (1 + gap % 5) = (k : Int) := by rw [wi64 (by omega) (by omega)]; exact hk
  have hk1 : 1 ≤ k ∧ k ≤ 5 := by omega
  rw [ek]
  refine Om.of _ (str_take Tryd.underlying9 (l := [32, 32, 32, 32, 32, 32]) .i64 (j := k) (by simp; omega)) ?_
  conv => whnf
  rw [six_take (by omega)]
  refine Sm.live [7, 8, 9, 11, 12, 14, 15] ?_
  conv => whnf
  refine Sm.seqW ?_
  conv => whnf
  have hG : (List.replicate k (32 : UInt8)).length = k := by simp
  obtain ⟨G, hGe⟩ : ∃ G, G = List.replicate k (32 : UInt8) := ⟨_, rfl⟩
  rw [← hGe] at hG ⊢
  refine Om.of _ (str_add ⟨G.toArray⟩ ⟨xs.toArray⟩ (by show G.length + xs.length ≤ _; omega)) ?_
  conv => whnf
  refine Om.of _ (str_add ⟨(G ++ xs).toArray⟩ ⟨G.toArray⟩ (by show (G ++ xs).length + G.length ≤ _; simp; omega)) ?_
  conv => whnf
  refine Om.of _ (str_add ⟨((G ++ xs) ++ G).toArray⟩ ⟨t.toArray⟩ (by show ((G ++ xs) ++ G).length + t.length ≤ _; simp; omega)) ?_
  conv => whnf
  refine hp.call (xtokens_spec hp.wf (((G ++ xs) ++ G) ++ t)) ?_
  intro v0 sc ha hp1 k1
  obtain ⟨w3, rfl, how⟩ := tok_all ha
  obtain ⟨κ3, hp⟩ := hp.on k1 how
  clear hp1 k1 how ha
  have hcl := tokR_short (((G ++ xs) ++ G) ++ t)
  have hal := tokR_short xs
  have hbl := tokR_short t
  have hX : ((G ++ xs) ++ G) ++ t = G ++ (xs ++ (G ++ t)) := by simp
  have hXl : (((G ++ xs) ++ G) ++ t).length = xs.length + t.length + 2 * k := by simp; omega
  obtain ⟨j1, j2⟩ := lex_join (s := xs) (t := t) (k := k) (by omega)
  rw [← hGe, ← hX] at j1 j2
  generalize ((G ++ xs) ++ G) ++ t = X at *
  obtain ⟨a1, c1, rfl⟩ := (hp.slF (κ := κ1) (v := w1) (by repeat (first | exact Rm.here | apply Rm.there))).shape
  obtain ⟨a2, c2, rfl⟩ := (hp.slF (κ := κ2) (v := w2) (by repeat (first | exact Rm.here | apply Rm.there))).shape
  obtain ⟨a3, c3, rfl⟩ := (hp.slF (κ := κ3) (v := w3) (by repeat (first | exact Rm.here | apply Rm.there))).shape
  conv => whnf
  refine Sm.live [7, 8, 9, 11, 12, 14, 15, 16, 18] ?_
  conv => whnf
  refine Sm.seq ?_
  have elen : IntKind.i64.wrap (IntKind.i64.wrap ((((bs ⟨xs.toArray⟩).length : Nat) : Int) + (((bs ⟨t.toArray⟩).length : Nat) : Int)) + IntKind.i64.wrap (2 * (((bs ⟨G.toArray⟩).length : Nat) : Int))) = (X.length : Int) := by
    show IntKind.i64.wrap (IntKind.i64.wrap ((xs.length : Int) + (t.length : Int)) + IntKind.i64.wrap (2 * (G.length : Int))) = (X.length : Int)
    rw [wi64 (n := (xs.length : Int) + t.length) (by omega) (by omega), wi64 (n := 2 * (G.length : Int)) (by omega) (by omega), wi64 (by omega) (by omega)]
    omega
  obtain ⟨D, hD⟩ : ∃ D, D = decide (400 < X.length ∨ rE (tokR xs) ≠ 0 ∨ rE (tokR t) ≠ 0) := ⟨_, rfl⟩
  refine Sm.seqC (fun e L' s' => e = .normal ∧ s' = sc ∧ Sub [(7, sv xs), (9, .slice a1 (rT (tokR xs)).length c1), (11, .int .i64 (rE (tokR xs))), (12, .slice a2 (rT (tokR t)).length c2), (15, sv G), (16, .slice a3 (rT (tokR X)).length c3), (18, .int .i64 (rE (tokR X))), (71, .bool D)] L') ?_ ?_
  · conv => whnf
    by_cases q1 : 400 < X.length
    · have q1' := decide_eq_true (show IntKind.i64.wrap (IntKind.i64.wrap ((((bs ⟨xs.toArray⟩).length : Nat) : Int) + (((bs ⟨t.toArray⟩).length : Nat) : Int)) + IntKind.i64.wrap (2 * (((bs ⟨G.toArray⟩).length : Nat) : Int))) > 400 by rw [elen]; omega)
      repeat (first | (refine Br.yes q1' ?_; conv => whnf) | (first | (refine Br.yes (by first | with_reducible rfl | with_reducible exact beq_self_eq_true _ | rfl) ?_; conv => whnf) | (refine Br.no (by first | with_reducible rfl | with_reducible exact bne_self_eq_false _ | rfl) ?_; conv => whnf)))
      have e : D = true := hD.trans (decide_eq_true (.inl q1))
      rw [e]
      exact ⟨rfl, rfl, subK_ok ⟨rfl, rfl, rfl, rfl, rfl, rfl, rfl, (by first | rfl | exact congrArg (fun x => some (Value.bool x)) q1'), trivial⟩⟩
    have q1' := decide_eq_false (show ¬ IntKind.i64.wrap (IntKind.i64.wrap ((((bs ⟨xs.toArray⟩).length : Nat) : Int) + (((bs ⟨t.toArray⟩).length : Nat) : Int)) + IntKind.i64.wrap (2 * (((bs ⟨G.toArray⟩).length : Nat) : Int))) > 400 by rw [elen]; omega)
    by_cases q2 : rE (tokR xs) = 0
    · have q2' : (rE (tokR xs) != 0) = false := bne_eq_false_iff_eq.2 q2
      repeat (first | (refine Br.no q1' ?_; conv => whnf) | (refine Br.no q2' ?_; conv => whnf) | (first | (refine Br.yes (by first | with_reducible rfl | with_reducible exact beq_self_eq_true _ | rfl) ?_; conv => whnf) | (refine Br.no (by first | with_reducible rfl | with_reducible exact bne_self_eq_false _ | rfl) ?_; conv => whnf)))
      have e : D = (rE (tokR t) != 0) := by rw [hD, Bool.eq_iff_iff, decide_eq_true_iff, bne_iff_ne]; simp [q1, q2]
      rw [e]
      exact ⟨rfl, rfl, subK_ok ⟨rfl, rfl, rfl, rfl, rfl, rfl, rfl, rfl, trivial⟩⟩
    · have q2' : (rE (tokR xs) != 0) = true := bne_iff_ne.2 q2
      repeat (first | (refine Br.no q1' ?_; conv => whnf) | (refine Br.yes q2' ?_; conv => whnf) | (first | (refine Br.yes (by first | with_reducible rfl | with_reducible exact beq_self_eq_true _ | rfl) ?_; conv => whnf) | (refine Br.no (by first | with_reducible rfl | with_reducible exact bne_self_eq_false _ | rfl) ?_; conv => whnf)))
      have e : D = true := hD.trans (decide_eq_true (.inr (.inl q2)))
      rw [e]
      exact ⟨rfl, rfl, subK_ok ⟨rfl, rfl, rfl, rfl, rfl, rfl, rfl, (by first | rfl | exact congrArg (fun x => some (Value.bool x)) q2'), trivial⟩⟩
  rintro e L' s' ⟨rfl, rfl, hs⟩
  refine Sm.weak _ hs ?_
  clear hs
  refine Sm.ofW ?_
  conv => whnf
  refine Br.mk (fun hc => ?_) (fun hc => ?_)
  · conv => whnf
    refine hp.call (xknown_spec hp.wf) ?_
    clear hp
    rintro _ s rfl hp _
    conv => whnf
    repeat (first | (refine Br.yes (by first | with_reducible rfl | with_reducible exact beq_self_eq_true _ | rfl) ?_; conv => whnf) | (refine Br.no (by first | with_reducible rfl | with_reducible exact bne_self_eq_false _ | rfl) ?_; conv => whnf))
    have main : rE (tokR xs) = 0 ∨ rE (tokR X) ≠ 0 := by
      by_cases q : rE (tokR xs) = 0
      · exact .inl q
      · refine .inr ?_
        by_cases q1 : 400 < X.length
        · rw [show tokR X = .inr 0 from if_pos q1]; decide
        · rw [show tokR xs = lexF xs 0 from if_neg (by omega)] at q
          rw [show tokR X = lexF X 0 from if_neg q1]
          cases hs0 : lexF xs 0 with
          | inl us => rw [hs0] at q; exact absurd rfl q
          | inr e0 =>
            obtain ⟨e', he'⟩ := j1 e0 hs0
            rw [he']; show (2 : Int) ≠ 0; decide
    by_cases q : rE (tokR xs) = 0
    · have q' : (rE (tokR xs) == 0) = true := beq_iff_eq.2 q
      repeat (first | (refine Br.yes q' ?_; conv => whnf) | (first | (refine Br.yes (by first | with_reducible rfl | with_reducible exact beq_self_eq_true _ | rfl) ?_; conv => whnf) | (refine Br.no (by first | with_reducible rfl | with_reducible exact bne_self_eq_false _ | rfl) ?_; conv => whnf)))
      exact ⟨congrArg Value.bool (by first | rfl | exact q')⟩
    · have q' : (rE (tokR xs) == 0) = false := beq_eq_false_iff_ne.2 q
      have q3 : (rE (tokR X) != 0) = true := bne_iff_ne.2 (main.resolve_left q)
      repeat (first | (refine Br.no q' ?_; conv => whnf) | (refine Br.yes q3 ?_; conv => whnf) | (first | (refine Br.yes (by first | with_reducible rfl | with_reducible exact beq_self_eq_true _ | rfl) ?_; conv => whnf) | (refine Br.no (by first | with_reducible rfl | with_reducible exact bne_self_eq_false _ | rfl) ?_; conv => whnf)))
      exact ⟨congrArg Value.bool (by first | rfl | exact q3)⟩
  · have hD2 := of_decide_eq_false (hD.symm.trans hc)
    have h400 : ¬ 400 < X.length := fun h => hD2 (.inl h)
    have hsA : rE (tokR xs) = 0 := Classical.not_not.1 fun h => hD2 (.inr (.inl h))
    have hsB : rE (tokR t) = 0 := Classical.not_not.1 fun h => hD2 (.inr (.inr h))
    have tA : tokR xs = lexF xs 0 := if_neg (by omega)
    have tB : tokR t = lexF t 0 := if_neg (by omega)
    have tX : tokR X = lexF X 0 := if_neg h400
    rw [tA] at hsA
    rw [tB] at hsB
    obtain ⟨us, hus⟩ : ∃ us, lexF xs 0 = .inl us := by
      cases h : lexF xs 0 with
      | inl us => exact ⟨us, rfl⟩
      | inr e => rw [h] at hsA; exact absurd hsA (show ¬ (2 : Int) = 0 by decide)
    obtain ⟨ts, hts⟩ : ∃ ts, lexF t 0 = .inl ts := by
      cases h : lexF t 0 with
      | inl ts => exact ⟨ts, rfl⟩
      | inr e => rw [h] at hsB; exact absurd hsB (show ¬ (2 : Int) = 0 by decide)
    obtain ⟨us', hu', hXX⟩ := j2 us ts hus hts
    have rA : rT (tokR xs) = us' ++ [⟨4, [], xs.length⟩] := by rw [tA, hus, ← hu']; rfl
    have rB : rT (tokR t) = ts := by rw [tB, hts]; rfl
    have rX : rT (tokR X) = us'.map (Tok.sh k) ++ ts.map (Tok.sh (xs.length + 2 * k)) := by rw [tX, hXX]; rfl
    have rEX : rE (tokR X) = 0 := by rw [tX, hXX]; rfl
    rw [rA, rB, rX] at hp
    rw [rA, rB, rX, rEX]
    have hC : ∀ i, (h : i < (us'.map (Tok.sh k) ++ ts.map (Tok.sh (xs.length + 2 * k))).length) → (∀ g : i < us'.length, (us'.map (Tok.sh k) ++ ts.map (Tok.sh (xs.length + 2 * k)))[i] = (us'[i]).sh k) ∧ (∀ g : ¬ i < us'.length, ∃ g2 : i - us'.length < ts.length, (us'.map (Tok.sh k) ++ ts.map (Tok.sh (xs.length + 2 * k)))[i] = (ts[i - us'.length]).sh (xs.length + 2 * k)) := by
      intro i h
      refine ⟨fun g => ?_, fun g => ?_⟩
      · rw [List.getElem_append_left (by simpa using g), List.getElem_map]
      · refine ⟨by simp at h; omega, ?_⟩
        rw [List.getElem_append_right (by simpa using g), List.getElem_map]
        simp
    have hCl : (us'.map (Tok.sh k) ++ ts.map (Tok.sh (xs.length + 2 * k))).length = us'.length + ts.length := by simp
    rw [rA] at hal
    rw [rB] at hbl
    rw [rX] at hcl
    have atA : ∀ t' ∈ us' ++ [Tok.mk 4 [] xs.length], t'.at_ ≤ 210 := fun t' h => by
      have := lex_at (xs.length - 0) xs 0 (Nat.zero_le _) t' (by rw [show lexN (xs.length - 0) xs 0 = .inl us from hus, hu']; exact h)
      omega
    have atB : ∀ t' ∈ ts, t'.at_ ≤ 210 := fun t' h => by
      have := lex_at (t.length - 0) t 0 (Nat.zero_le _) t' (by rw [show lexN (t.length - 0) t 0 = .inl ts from hts]; exact h)
      omega
    generalize hC0 : us'.map (Tok.sh k) ++ ts.map (Tok.sh (xs.length + 2 * k)) = C at *
    have hAl : (us' ++ [Tok.mk 4 [] xs.length]).length = us'.length + 1 := by simp
    conv => whnf
    refine Sm.seq ?_
    refine Sm.seqW ?_
    conv => whnf
    refine hp.call (xknown_spec hp.wf) ?_
    clear hp
    rintro _ s rfl hp _
    conv => whnf
    repeat (first | (refine Br.yes (by first | with_reducible rfl | with_reducible exact beq_self_eq_true _ | rfl) ?_; conv => whnf) | (refine Br.no (by first | with_reducible rfl | with_reducible exact bne_self_eq_false _ | rfl) ?_; conv => whnf))
    have ec : IntKind.i64.wrap (IntKind.i64.wrap (((us' ++ [Tok.mk 4 [] xs.length]).length : Int) + (ts.length : Int)) - 1) = (C.length : Int) := by
      rw [hAl, hCl, wi64 (n := ((us'.length + 1 : Nat) : Int) + (ts.length : Int)) (by omega) (by omega), wi64 (by omega) (by omega)]; omega
    rw [ec]
    repeat (first | (refine Br.yes (by first | with_reducible rfl | with_reducible exact beq_self_eq_true _ | rfl) ?_; conv => whnf) | (refine Br.no (by first | with_reducible rfl | with_reducible exact bne_self_eq_false _ | rfl) ?_; conv => whnf))
    refine Sm.live [7, 9, 12, 15, 16, 97] ?_
    conv => whnf
    refine Sm.ofW ?_
    conv => whnf
    repeat (first | (refine Br.yes (by first | with_reducible rfl | with_reducible exact beq_self_eq_true _ | rfl) ?_; conv => whnf) | (refine Br.no (by first | with_reducible rfl | with_reducible exact bne_self_eq_false _ | rfl) ?_; conv => whnf))
    refine Sm.seq ?_
    refine Sm.seqW ?_
    conv => whnf
    refine Sm.live [7, 9, 12, 15, 16, 99, 100] ?_
    conv => whnf
    refine Sm.block ?_
    refine Sm.loop ?_
    refine Lp.ofS (α := Nat) (fun i => [(7, sv xs), (9, .slice a1 (us' ++ [Tok.mk 4 [] xs.length]).length c1), (12, .slice a2 ts.length c2), (15, sv G), (16, .slice a3 C.length c3), (99, .int .i64 ((C.length : Nat) : Int)), (100, .int .i64 (i : Int))])
      (fun i s' => i ≤ C.length ∧ Hp (fun _ => False) s0 [] [onA κ3 (.slice a3 C.length c3) 3 C.length (tkC C), onA κ2 (.slice a2 ts.length c2) 3 ts.length (tkC ts), onA κ1 (.slice a1 (us' ++ [Tok.mk 4 [] xs.length]).length c1) 3 (us' ++ [Tok.mk 4 [] xs.length]).length (tkC (us' ++ [Tok.mk 4 [] xs.length]))] s') (fun i => C.length - i) ?_ 0 (subK_ok (by refine ⟨rfl, rfl, rfl, rfl, rfl, rfl, rfl, trivial⟩)) ⟨Nat.zero_le _, hp.pik (by repeat (first | exact Pik.nil | exact Pik.refl _ | exact Rm.here | apply Rm.there | apply Pik.cons | apply Pik.skip))⟩
    clear hp
    rintro i s ⟨hi, hp⟩
    refine Sm.seqW ?_
    conv => whnf
    refine Sm.live [7, 9, 12, 15, 16, 99, 100, 101] ?_
    conv => whnf
    refine Sm.seq ?_
    refine Sm.ofW ?_
    conv => whnf
    refine Br.mk (fun hq => ?_) (fun hq => ?_)
    · have hq : i < C.length := by have : (i : Int) < (C.length : Int) := of_decide_eq_true hq; omega
      obtain ⟨hC1, hC2⟩ := hC i hq
      conv => whnf
      refine Sm.seq (Sm.mono (Q := fun e L' s' => e = .normal ∧ Hp (fun _ => False) s0 [] [onA κ3 (.slice a3 C.length c3) 3 C.length (tkC C), onA κ2 (.slice a2 ts.length c2) 3 ts.length (tkC ts), onA κ1 (.slice a1 (us' ++ [Tok.mk 4 [] xs.length]).length c1) 3 (us' ++ [Tok.mk 4 [] xs.length]).length (tkC (us' ++ [Tok.mk 4 [] xs.length]))] s' ∧ Sub [(7, sv xs), (9, .slice a1 (us' ++ [Tok.mk 4 [] xs.length]).length c1), (12, .slice a2 ts.length c2), (15, sv G), (16, .slice a3 C.length c3), (99, .int .i64 ((C.length : Nat) : Int)), (100, .int .i64 (i : Int))] L') ?_ ?_)
      · refine Sm.block ?_
        refine Sm.seqW ?_
        conv => whnf
        refine Sm.live [7, 9, 12, 15, 16, 19, 99, 100] ?_
        conv => whnf
        refine Sm.seqW ?_
        conv => whnf
        obtain ⟨p3, e3, g3⟩ := index_tk (hp.slF (κ := κ3) (v := .slice a3 C.length c3) (by repeat (first | exact Rm.here | apply Rm.there))) .i64 hq
        refine Om.of _ (e3) ?_
        conv => whnf
        refine Om.of _ (g3) ?_
        conv => whnf
        refine hp.alloc (cs := (Tok.mk 0 [] 0).cells) (e := 3) rfl rfl rfl rfl rfl ?_
        clear hp
        intro p20 s hp _
        conv => whnf
        refine hp.storeW (vs := (C[i]).cells) rfl (by repeat (first | exact Rm.here | apply Rm.there)) (by first | exact C2_same _ _ _ _ | exact C4_same _ _ _ _ _ _ _ _ | exact Dc_same _ _ | rfl) rfl rfl rfl ?_
        clear hp
        intro s hp _
        conv => whnf
        refine Sm.live [7, 9, 12, 15, 16, 19, 20, 99, 100] ?_
        conv => whnf
        refine Sm.seqW ?_
        conv => whnf
        refine hp.alloc (cs := (Tok.mk 0 [] 0).cells) (e := 3) rfl rfl rfl rfl rfl ?_
        clear hp
        intro p21 s hp _
        conv => whnf
        refine hp.storeW (vs := (Tok.mk 0 [] 0).cells) rfl (by repeat (first | exact Rm.here | apply Rm.there)) (by first | exact C2_same _ _ _ _ | exact C4_same _ _ _ _ _ _ _ _ | exact Dc_same _ _ | rfl) rfl rfl rfl ?_
        clear hp
        intro s hp _
        conv => whnf
        refine Sm.live [7, 9, 12, 15, 16, 19, 20, 21, 99, 100] ?_
        conv => whnf
        refine Sm.seqC (fun e L' s' => e = .normal ∧ Hp (fun _ => False) s0 [] [blkA p21 p21 (C[i]).cells 3, blkA p20 p20 (C[i]).cells 3, onA κ3 (.slice a3 C.length c3) 3 C.length (tkC C), onA κ2 (.slice a2 ts.length c2) 3 ts.length (tkC ts), onA κ1 (.slice a1 (us' ++ [Tok.mk 4 [] xs.length]).length c1) 3 (us' ++ [Tok.mk 4 [] xs.length]).length (tkC (us' ++ [Tok.mk 4 [] xs.length]))] s' ∧ Sub [(7, sv xs), (9, .slice a1 (us' ++ [Tok.mk 4 [] xs.length]).length c1), (12, .slice a2 ts.length c2), (15, sv G), (16, .slice a3 C.length c3), (99, .int .i64 ((C.length : Nat) : Int)), (100, .int .i64 (i : Int)), (20, .pointer (some ⟨p20, 0, none⟩)), (21, .pointer (some ⟨p21, 0, none⟩))] L') ?_ ?_
        · conv => whnf
          have ew : IntKind.i64.wrap (((us' ++ [Tok.mk 4 [] xs.length]).length : Int) - 1) = (us'.length : Int) := by rw [hAl, wi64 (by omega) (by omega)]; omega
          rw [ew]
          by_cases g : i < us'.length
          · refine Br.yes (decide_eq_true (by omega)) ?_
            conv => whnf
            have hiA : i < (us' ++ [Tok.mk 4 [] xs.length]).length := by omega
            obtain ⟨p1, e1, g1⟩ := index_tk (hp.slF (κ := κ1) (v := .slice a1 (us' ++ [Tok.mk 4 [] xs.length]).length c1) (by repeat (first | exact Rm.here | apply Rm.there))) .i64 hiA
            obtain ⟨T, hT⟩ : ∃ T, T = (us' ++ [Tok.mk 4 [] xs.length])[i] := ⟨_, rfl⟩
            have hTa : T.at_ ≤ 210 := by rw [hT]; exact atA _ (List.getElem_mem hiA)
            have hCT : C[i] = T.sh k := by rw [hC1 g, hT, List.getElem_append_left g]
            rw [← hT] at g1
            refine Om.of _ (e1) ?_
            conv => whnf
            refine Om.of _ (g1) ?_
            conv => whnf
            refine hp.storeW (vs := T.cells) rfl (by repeat (first | exact Rm.here | apply Rm.there)) (by first | exact C2_same _ _ _ _ | exact C4_same _ _ _ _ _ _ _ _ | exact Dc_same _ _ | rfl) rfl rfl rfl ?_
            clear hp
            intro s hp _
            conv => whnf
            refine hp.load (v := .int .i64 (T.at_ : Int)) (by repeat (first | exact Has.here | apply Has.there | (apply Has.swap; repeat (first | exact HasR.here | apply HasR.there)))) (by rfl) rfl rfl rfl ?_
            conv => whnf
            refine hp.store (off := 2) (by repeat (first | exact Rm.here | apply Rm.there)) (by show 2 < 3; decide) rfl rfl rfl rfl ?_
            clear hp
            intro s hp _
            conv => whnf
            have es : IntKind.i64.wrap ((T.at_ : Int) + (((bs ⟨G.toArray⟩).length : Nat) : Int)) = ((k + T.at_ : Nat) : Int) := by
              show IntKind.i64.wrap ((T.at_ : Int) + (G.length : Int)) = _
              rw [wi64 (by omega) (by omega)]; omega
            rw [sh_cells T k es, ← hCT] at hp
            exact ⟨rfl, hp.pik (by repeat (first | exact Pik.nil | exact Pik.refl _ | exact Rm.here | apply Rm.there | apply Pik.cons | apply Pik.skip)), subK_ok ⟨rfl, rfl, rfl, rfl, rfl, rfl, rfl, rfl, rfl, trivial⟩⟩
          · refine Br.no (decide_eq_false (by omega)) ?_
            conv => whnf
            obtain ⟨hiB, hCT0⟩ := hC2 g
            have ex : IntKind.i64.wrap (IntKind.i64.wrap ((i : Int) - ((us' ++ [Tok.mk 4 [] xs.length]).length : Int)) + 1) = ((i - us'.length : Nat) : Int) := by
              rw [hAl, wi64 (n := (i : Int) - ((us'.length + 1 : Nat) : Int)) (by omega) (by omega), wi64 (by omega) (by omega)]; omega
            rw [ex]
            obtain ⟨p1, e1, g1⟩ := index_tk (hp.slF (κ := κ2) (v := .slice a2 ts.length c2) (by repeat (first | exact Rm.here | apply Rm.there))) .i64 hiB
            obtain ⟨T, hT⟩ : ∃ T, T = ts[i - us'.length] := ⟨_, rfl⟩
            have hTa : T.at_ ≤ 210 := by rw [hT]; exact atB _ (List.getElem_mem hiB)
            rw [← hT] at g1 hCT0
            refine Om.of _ (e1) ?_
            conv => whnf
            refine Om.of _ (g1) ?_
            conv => whnf
            refine hp.storeW (vs := T.cells) rfl (by repeat (first | exact Rm.here | apply Rm.there)) (by first | exact C2_same _ _ _ _ | exact C4_same _ _ _ _ _ _ _ _ | exact Dc_same _ _ | rfl) rfl rfl rfl ?_
            clear hp
            intro s hp _
            conv => whnf
            refine hp.load (v := .int .i64 (T.at_ : Int)) (by repeat (first | exact Has.here | apply Has.there | (apply Has.swap; repeat (first | exact HasR.here | apply HasR.there)))) (by rfl) rfl rfl rfl ?_
            conv => whnf
            refine hp.store (off := 2) (by repeat (first | exact Rm.here | apply Rm.there)) (by show 2 < 3; decide) rfl rfl rfl rfl ?_
            clear hp
            intro s hp _
            conv => whnf
            have es : IntKind.i64.wrap (IntKind.i64.wrap ((T.at_ : Int) + (((bs ⟨xs.toArray⟩).length : Nat) : Int)) + IntKind.i64.wrap (2 * (((bs ⟨G.toArray⟩).length : Nat) : Int))) = ((xs.length + 2 * k + T.at_ : Nat) : Int) := by
              show IntKind.i64.wrap (IntKind.i64.wrap ((T.at_ : Int) + (xs.length : Int)) + IntKind.i64.wrap (2 * (G.length : Int))) = _
              rw [wi64 (n := (T.at_ : Int) + (xs.length : Int)) (by omega) (by omega), wi64 (n := 2 * (G.length : Int)) (by omega) (by omega), wi64 (by omega) (by omega)]; omega
            rw [sh_cells T (xs.length + 2 * k) es, ← hCT0] at hp
            exact ⟨rfl, hp.pik (by repeat (first | exact Pik.nil | exact Pik.refl _ | exact Rm.here | apply Rm.there | apply Pik.cons | apply Pik.skip)), subK_ok ⟨rfl, rfl, rfl, rfl, rfl, rfl, rfl, rfl, rfl, trivial⟩⟩
        clear hp
        rintro e L' s ⟨rfl, hp, hs⟩
        refine Sm.weak _ hs ?_
        clear hs
        refine Sm.seqW ?_
        conv => whnf
        refine hp.loadA (l := (C[i]).cells) (by repeat (first | exact Has.here | apply Has.there | (apply Has.swap; repeat (first | exact HasR.here | apply HasR.there)))) rfl (by rfl) rfl rfl ?_
        conv => whnf
        refine hp.loadA (l := (C[i]).cells) (by repeat (first | exact Has.here | apply Has.there | (apply Has.swap; repeat (first | exact HasR.here | apply HasR.there)))) rfl (by rfl) rfl rfl ?_
        conv => whnf
        refine Om.of _ (tk_ne C[i] _) ?_
        conv => whnf
        refine Sm.live [7, 9, 12, 15, 16, 99, 100, 143] ?_
        conv => whnf
        refine Sm.ofW ?_
        conv => whnf
        repeat (first | (refine Br.yes (by first | with_reducible rfl | with_reducible exact beq_self_eq_true _ | rfl) ?_; conv => whnf) | (refine Br.no (by first | with_reducible rfl | with_reducible exact bne_self_eq_false _ | rfl) ?_; conv => whnf))
        exact ⟨rfl, hp.pik (by repeat (first | exact Pik.nil | exact Pik.refl _ | exact Rm.here | apply Rm.there | apply Pik.cons | apply Pik.skip)), subK_ok ⟨rfl, rfl, rfl, rfl, rfl, rfl, rfl, trivial⟩⟩
      clear hp
      rintro e L' s ⟨rfl, hp, hs⟩
      refine Sm.weak _ hs ?_
      clear hs
      refine Sm.ofW ?_
      conv => whnf
      exact ⟨i + 1, by (show C.length - (i + 1) < C.length - i); omega, subK_ok (by refine ⟨rfl, rfl, rfl, rfl, rfl, rfl, congrArg (fun x => some (Value.int .i64 x)) (show IntKind.i64.wrap ((i : Int) + 1) = ((i + 1 : Nat) : Int) by rw [wi64 (by omega) (by omega)]; omega), trivial⟩), by omega, hp⟩
    · conv => whnf
      refine Sm.seqW ?_
      conv => whnf
      refine Sm.live [6] ?_
      conv => whnf
      refine Sm.ofW ?_
      conv => whnf
      exact ⟨rfl⟩
end Go.Ev
end

/- LexPlaces walked. No condition. -/
noncomputable section
namespace Go.Ev
open Go.Proofs
variable [Lk]
set_option linter.unusedSectionVars false
set_option linter.unusedVariables false
set_option maxRecDepth 100000

/-- Tokens stand in a text at their places, from a place on. -/
def PO (s : List UInt8) : Nat → List Tok → Prop
  | at_, [] => at_ = s.length
  | at_, t :: ts => at_ ≤ t.at_ ∧ t.at_ + t.text.length ≤ s.length ∧ (s.drop at_).take (t.at_ - at_) = List.replicate (t.at_ - at_) 32 ∧ (s.drop t.at_).take t.text.length = t.text ∧ (t.kind = 4 ↔ ts = []) ∧ (t.text = [] ↔ ts = []) ∧ PO s (t.at_ + t.text.length) ts
theorem rep_snoc {s : List UInt8} {at_ i : Nat} {r : List UInt8} (h1 : at_ ≤ i) (h : (s.drop at_).take (i - at_) = List.replicate (i - at_) 32) (hd : s.drop i = 32 :: r) : (s.drop at_).take (i + 1 - at_) = List.replicate (i + 1 - at_) 32 := by
  rw [show i + 1 - at_ = (i - at_) + 1 by omega, List.take_add, h, List.drop_drop, show at_ + (i - at_) = i by omega, hd, List.replicate_succ']
  rfl
theorem lex_po : ∀ (n : Nat) (s : List UInt8) (i at_ : Nat), s.length - i ≤ n → i ≤ s.length → at_ ≤ i → (s.drop at_).take (i - at_) = List.replicate (i - at_) 32 → ∀ ts, lexN n s i = .inl ts → ts ≠ [] ∧ PO s at_ ts := by
  intro n
  induction n with
  | zero =>
    intro s i at_ h1 h2 h3 h4 ts h
    simp only [lexN] at h
    injection h with h
    subst h
    exact ⟨by simp, h3, by simp; omega, h4, by simp, by simp, by simp, by show i + 0 = s.length; omega⟩
  | succ n ih =>
    intro s i at_ h1 h2 h3 h4 ts h
    simp only [lexN] at h
    cases hd : s.drop i with
    | nil =>
      have : s.length - i = 0 := by have := congrArg List.length hd; simpa using this
      rw [hd] at h
      injection h with h
      subst h
      exact ⟨by simp, h3, by simp; omega, h4, by simp, by simp, by simp, by show i + 0 = s.length; omega⟩
    | cons c r =>
      have hrl : s.length - i = r.length + 1 := by have := congrArg List.length hd; simpa using this
      rw [hd] at h
      by_cases hc : c = 32
      · simp only [hc, if_true] at h
        subst hc
        exact ih s (i + 1) at_ (by omega) (by omega) (by omega) (rep_snoc h3 h4 hd) ts h
      · simp only [hc, if_false] at h
        cases ho : oneL c r i with
        | none => rw [ho] at h; cases h
        | some x =>
          obtain ⟨t1, t2, t3, t4, t5⟩ := oneL_text ho
          have t6 : 0 < x.text.length := List.length_pos_iff.2 t2
          rw [ho] at h
          simp only at h
          cases hx : lexN n s (i + x.text.length) with
          | inr k => rw [hx] at h; cases h
          | inl us =>
            rw [hx] at h
            injection h with h
            subst h
            obtain ⟨g1, g2⟩ := ih s (i + x.text.length) (i + x.text.length) (by omega) (by omega) (Nat.le_refl _) (by simp) us hx
            refine ⟨by simp, by omega, by omega, by rw [t1]; exact h4, by rw [t1, hd]; exact t5.symm, ⟨fun hk => by omega, fun hk => absurd hk g1⟩, ⟨fun hk => absurd hk t2, fun hk => absurd hk g1⟩, ?_⟩
            rw [t1]; exact g2
theorem lex_bad : ∀ (n : Nat) (s : List UInt8) (i k : Nat), lexN n s i = .inr k → k < s.length := by
  intro n
  induction n with
  | zero => intro s i k h; cases h
  | succ n ih =>
    intro s i k h
    simp only [lexN] at h
    cases hd : s.drop i with
    | nil => rw [hd] at h; cases h
    | cons c r =>
      have hrl : s.length - i = r.length + 1 := by have := congrArg List.length hd; simpa using this
      rw [hd] at h
      by_cases hc : c = 32
      · simp only [hc, if_true] at h
        exact ih s (i + 1) k h
      · simp only [hc, if_false] at h
        cases ho : oneL c r i with
        | none => rw [ho] at h; injection h with h; omega
        | some x =>
          rw [ho] at h
          simp only at h
          cases hx : lexN n s (i + x.text.length) with
          | inr k' => rw [hx] at h; injection h with h; subst h; exact ih _ _ _ hx
          | inl us => rw [hx] at h; cases h
section
variable {X : Nat → Prop} {s0 s : St} {R F F' : List At} {P : Program} {t : TypeId} {b : Nat}
theorem Hp.range {K : Value × St → Prop} (h : Hp X s0 R F s) (hu : P.underlying t = some .string) (x : ByteArray)
    (hk : ∀ b s', Hp X s0 R (itA b x 0 :: F) s' → K0 s s' → K (.pointer (some ⟨b, 0, none⟩), s')) : Om (evRange P t (.string x) s) K := by
  obtain ⟨g1, g2⟩ := newIter_kp h.wf x 0
  refine .of (.pointer (some ⟨s.next, 0, none⟩), s.newIter x 0) ?_ (hk _ _ (h.push g1 g2 fun j hj => by subst hj; exact Nat.le_refl _) g1)
  unfold evRange
  rw [hu]
theorem Hp.next {K : Value × St → Prop} (h : Hp X s0 R F s) {x : ByteArray} {pos : Nat} {c : UInt8} (m : Rm (itA b x pos) F F') (hc : (bs x)[pos]? = some c) (h7 : c.toNat < 128)
    (hk : ∀ s', Hp X s0 R (itA b x (pos + 1) :: F') s' → K (.tuple #[.bool true, .int .i64 (pos : Int), .int .i32 (c.toNat : Int)], s')) : Om (evNext (.pointer (some ⟨b, 0, none⟩)) true s) K := by
  have hI : It s b x pos := h.okF _ m.sub.1
  obtain ⟨s', w1, w2, w3, w4⟩ := setIter_kp h.wf hI (t' := x) (p' := pos + 1)
  refine .of (_, s') ?_ (hk s' (h.upd m w2 (fun j hj => .inl hj) w3 (fun j hj => .inl hj)))
  unfold evNext
  simp only [hI.ex, hc, blt_of h7, w1]
theorem Hp.nextEnd {K : Value × St → Prop} (h : Hp X s0 R F s) {x : ByteArray} {pos : Nat} (m : Rm (itA b x pos) F F') (hc : (bs x)[pos]? = none)
    (hk : K (.tuple #[.bool false], s)) : Om (evNext (.pointer (some ⟨b, 0, none⟩)) true s) K := by
  have hI : It s b x pos := h.okF _ m.sub.1
  refine .of (_, s) ?_ hk
  unfold evNext
  simp only [hI.ex, hc]
end
theorem bool_ne {P : Program} {t : TypeId} (hu : P.underlying t = some .bool) (c a b : Bool) : evBin P .neq t c (.bool a) (.bool b) = some (.bool (!(a == b))) := by
  have h : evEq P (9999 + 1) t (.bool a) (.bool b) = some (a == b) := by
    unfold evEq
    rw [hu]
  show (match evEq P 10000 t (.bool a) (.bool b) with
    | some r => some (Value.bool (!r))
    | none => none) = _
  rw [h]
theorem beq_iff_b {p q : Prop} [Decidable p] [Decidable q] {a b : Bool} (ha : a = true ↔ p) (hb : b = true ↔ q) (h : p ↔ q) : (!(a == b)) = false := by
  have : a = b := by rw [Bool.eq_iff_iff, ha, hb]; exact h
  rw [this]; simp
theorem lexPlaces_walk {s0 : St} (wf : WF s0) {v : Value} {z : List Int} (hv : Sl s0 none v 1 z.length (z.map (Value.int .i64))) (hl : z.length ≤ 140737488351232) (hz : ∀ n ∈ z, inR n) :
    Cw Tryd.prog 5 [v] s0 fun r _ => r = .bool true := by
  obtain ⟨a, c, rfl⟩ := hv.shape
  have hp : Hp (fun _ => False) s0 [slA none (.slice a z.length c) 1 z.length (z.map (Value.int .i64))] [] s0 := Hp.start _ wf _ (by simp; exact hv)
  refine Cw.enterS Tryd.func5 rfl rfl ?_
  refine Sm.seqW ?_
  conv => whnf
  refine Sm.live [0] ?_
  conv => whnf
  refine Sm.seqW ?_
  conv => whnf
  refine (xtext_spec _ hv hz (by omega) [] (by decide)).mono ?_
  rintro _ s1 ⟨h1, xs, rfl, hs⟩
  obtain rfl := h1.symm
  have hs : xs.length ≤ 210 := hs
  conv => whnf
  refine Sm.live [3] ?_
  conv => whnf
  refine Sm.seqW ?_
  conv => whnf
  generalize [slA none (.slice a z.length c) 1 z.length (z.map (Value.int .i64))] = R at hp
  refine hp.call (xtokens_spec hp.wf xs) ?_
  intro v0 sa ha hp1 k1
  have hal := tokR_short xs
  have tA : tokR xs = lexF xs 0 := if_neg (by omega)
  rw [tA] at ha hal
  cases hX : lexF xs 0 with
  | inr k =>
    rw [hX] at ha
    have hk := lex_bad _ _ _ _ hX
    obtain rfl : v0 = .tuple #[.slice none 0 0, .int .i64 (k : Int), .int .i64 2] := ha
    clear hp
    have hp := hp1
    clear hp1 k1
    conv => whnf
    refine Sm.live [3, 4, 5, 6] ?_
    conv => whnf
    refine Sm.seq ?_
    refine Sm.ofW ?_
    conv => whnf
    repeat (first | (refine Br.yes (by first | with_reducible rfl | with_reducible exact beq_self_eq_true _ | rfl) ?_; conv => whnf) | (refine Br.no (by first | with_reducible rfl | with_reducible exact bne_self_eq_false _ | rfl) ?_; conv => whnf))
    refine hp.call (xknown_spec hp.wf) ?_
    clear hp
    rintro _ s rfl hp _
    conv => whnf
    repeat (first | (refine Br.yes (by first | with_reducible rfl | with_reducible exact beq_self_eq_true _ | rfl) ?_; conv => whnf) | (refine Br.no (by first | with_reducible rfl | with_reducible exact bne_self_eq_false _ | rfl) ?_; conv => whnf))
    have q := decide_eq_true (show (k : Int) < ((bs ⟨xs.toArray⟩).length : Int) by show (k : Int) < (xs.length : Int); omega)
    repeat (first | (refine Br.yes q ?_; conv => whnf) | (first | (refine Br.yes (by first | with_reducible rfl | with_reducible exact beq_self_eq_true _ | rfl) ?_; conv => whnf) | (refine Br.no (by first | with_reducible rfl | with_reducible exact bne_self_eq_false _ | rfl) ?_; conv => whnf)))
    exact ⟨congrArg Value.bool (by first | rfl | exact q)⟩
  | inl ts =>
    rw [hX] at ha hal
    have hal : ts.length ≤ 401 := hal
    obtain ⟨hne, hpo⟩ := lex_po _ xs 0 0 (Nat.le_refl _) (Nat.zero_le _) (Nat.zero_le _) (by simp) ts hX
    obtain ⟨w, rfl, how⟩ := ha
    obtain ⟨κ1, hp⟩ := hp.on k1 how
    clear hp1 k1 how
    obtain ⟨a1, c1, rfl⟩ := (hp.slF (κ := κ1) (v := w) (by repeat (first | exact Rm.here | apply Rm.there))).shape
    conv => whnf
    refine Sm.live [3, 4, 5, 6] ?_
    conv => whnf
    refine Sm.seq ?_
    refine Sm.ofW ?_
    conv => whnf
    repeat (first | (refine Br.yes (by first | with_reducible rfl | with_reducible exact beq_self_eq_true _ | rfl) ?_; conv => whnf) | (refine Br.no (by first | with_reducible rfl | with_reducible exact bne_self_eq_false _ | rfl) ?_; conv => whnf))
    refine Sm.seqW ?_
    conv => whnf
    refine Sm.live [3, 4, 7] ?_
    conv => whnf
    refine Sm.seq ?_
    refine Sm.seqW ?_
    conv => whnf
    refine Sm.live [3, 4, 7, 42, 43, 44] ?_
    conv => whnf
    refine Sm.block ?_
    refine Sm.loop ?_
    refine Lp.ofS (α := Nat × Nat) (fun x => [(3, sv xs), (4, .slice a1 ts.length c1), (7, .int .i64 (x.2 : Int)), (42, .slice a1 ts.length c1), (43, .int .i64 ((ts.length : Nat) : Int)), (44, .int .i64 (x.1 : Int))])
      (fun x s' => x.1 ≤ ts.length ∧ PO xs x.2 (ts.drop x.1) ∧ Hp (fun _ => False) s0 R [onA κ1 (.slice a1 ts.length c1) 3 ts.length (tkC ts)] s') (fun x => ts.length - x.1) ?_ (0, 0) (subK_ok (by refine ⟨rfl, rfl, rfl, rfl, rfl, rfl, trivial⟩)) ⟨Nat.zero_le _, hpo, hp.pik (by repeat (first | exact Pik.nil | exact Pik.refl _ | exact Rm.here | apply Rm.there | apply Pik.cons | apply Pik.skip))⟩
    clear hp
    rintro ⟨i, at_⟩ s ⟨hi, hP, hp⟩
    dsimp only at hi hP ⊢
    refine Sm.seqW ?_
    conv => whnf
    refine Sm.live [3, 4, 7, 42, 43, 44, 45] ?_
    conv => whnf
    refine Sm.seq ?_
    refine Sm.ofW ?_
    conv => whnf
    refine Br.mk (fun hq => ?_) (fun hq => ?_)
    · have hq : i < ts.length := by have : (i : Int) < (ts.length : Int) := of_decide_eq_true hq; omega
      obtain ⟨p1, e1, g1⟩ := index_tk (hp.slF (κ := κ1) (v := .slice a1 ts.length c1) (by repeat (first | exact Rm.here | apply Rm.there))) .i64 hq
      rw [List.drop_eq_getElem_cons hq] at hP
      have hdn : ts.drop (i + 1) = [] ↔ i + 1 = ts.length := by rw [List.drop_eq_nil_iff]; omega
      obtain ⟨T, hT⟩ : ∃ T, T = ts[i] := ⟨_, rfl⟩
      rw [← hT] at g1 hP
      obtain ⟨P1, P2, P3, P4, P5, P6, P7⟩ := hP
      conv => whnf
      refine Sm.seq (Sm.mono (Q := fun e L' s' => e = .normal ∧ Hp (fun _ => False) s0 R [onA κ1 (.slice a1 ts.length c1) 3 ts.length (tkC ts)] s' ∧ Sub [(3, sv xs), (4, .slice a1 ts.length c1), (7, .int .i64 ((T.at_ + T.text.length : Nat) : Int)), (42, .slice a1 ts.length c1), (43, .int .i64 ((ts.length : Nat) : Int)), (44, .int .i64 (i : Int))] L') ?_ ?_)
      · refine Sm.block ?_
        refine Sm.seqW ?_
        conv => whnf
        refine Om.of _ (e1) ?_
        conv => whnf
        refine Om.of _ (g1) ?_
        conv => whnf
        refine hp.alloc (cs := (Tok.mk 0 [] 0).cells) (e := 3) rfl rfl rfl rfl rfl ?_
        clear hp
        intro p9 s hp _
        conv => whnf
        refine hp.storeW (vs := T.cells) rfl (by repeat (first | exact Rm.here | apply Rm.there)) (by first | exact C2_same _ _ _ _ | exact C4_same _ _ _ _ _ _ _ _ | exact Dc_same _ _ | rfl) rfl rfl rfl ?_
        clear hp
        intro s hp _
        conv => whnf
        refine Sm.live [3, 4, 7, 8, 9, 42, 43, 44] ?_
        conv => whnf
        refine Sm.seq ?_
        refine Sm.seqW ?_
        conv => whnf
        have T1 : IntKind.i64.wrap ((T.at_ : Int) + (((bs ⟨T.text.toArray⟩).length : Nat) : Int)) = ((T.at_ + T.text.length : Nat) : Int) := by
          show IntKind.i64.wrap ((T.at_ : Int) + (T.text.length : Int)) = _
          rw [wi64 (by omega) (by omega)]; omega
        have b1 : decide ((T.at_ : Int) < (at_ : Int)) = false := decide_eq_false (by omega)
        have b2 : decide (IntKind.i64.wrap ((T.at_ : Int) + (((bs ⟨T.text.toArray⟩).length : Nat) : Int)) > (((bs ⟨xs.toArray⟩).length : Nat) : Int)) = false := by
          rw [T1]; exact decide_eq_false (by show ¬ ((T.at_ + T.text.length : Nat) : Int) > (xs.length : Int); omega)
        repeat (first | (refine Br.no b1 ?_; conv => whnf) | (refine Br.no b2 ?_; conv => whnf) | (first | (refine Br.yes (by first | with_reducible rfl | with_reducible exact beq_self_eq_true _ | rfl) ?_; conv => whnf) | (refine Br.no (by first | with_reducible rfl | with_reducible exact bne_self_eq_false _ | rfl) ?_; conv => whnf)) | (refine hp.load (by repeat (first | exact Has.here | apply Has.there | (apply Has.swap; repeat (first | exact HasR.here | apply HasR.there)))) (by rfl) rfl rfl rfl ?_; conv => whnf))
        refine Om.of _ (bool_ne Tryd.underlying4 _ _ _) ?_
        conv => whnf
        have b3 : (!((T.kind == 4) == ((i : Int) == IntKind.i64.wrap ((ts.length : Int) - 1)))) = false := by
          have : T.kind = 4 ↔ (i : Int) = IntKind.i64.wrap ((ts.length : Int) - 1) := by rw [wi64 (by omega) (by omega), P5, hdn]; omega
          exact beq_iff_b beq_iff_eq beq_iff_eq this
        repeat (first | (refine Br.no b1 ?_; conv => whnf) | (refine Br.no b2 ?_; conv => whnf) | (refine Br.no b3 ?_; conv => whnf) | (first | (refine Br.yes (by first | with_reducible rfl | with_reducible exact beq_self_eq_true _ | rfl) ?_; conv => whnf) | (refine Br.no (by first | with_reducible rfl | with_reducible exact bne_self_eq_false _ | rfl) ?_; conv => whnf)) | (refine hp.load (by repeat (first | exact Has.here | apply Has.there | (apply Has.swap; repeat (first | exact HasR.here | apply HasR.there)))) (by rfl) rfl rfl rfl ?_; conv => whnf))
        refine Om.of _ (str_eq ⟨T.text.toArray⟩ _) ?_
        conv => whnf
        repeat (first | (refine Br.no b3 ?_; conv => whnf) | (first | (refine Br.yes (by first | with_reducible rfl | with_reducible exact beq_self_eq_true _ | rfl) ?_; conv => whnf) | (refine Br.no (by first | with_reducible rfl | with_reducible exact bne_self_eq_false _ | rfl) ?_; conv => whnf)))
        refine Om.of _ (bool_ne Tryd.underlying4 _ _ _) ?_
        conv => whnf
        have b4 : (!((T.kind == 4) == (bs ⟨T.text.toArray⟩ == bs { data := #[] }))) = false := by
          have : T.kind = 4 ↔ T.text = [] := by rw [P5, P6]
          refine beq_iff_b beq_iff_eq ?_ this
          show (T.text == ([] : List UInt8)) = true ↔ _
          rw [beq_iff_eq]
        repeat (first | (refine Br.no b4 ?_; conv => whnf) | (refine Br.no b3 ?_; conv => whnf) | (first | (refine Br.yes (by first | with_reducible rfl | with_reducible exact beq_self_eq_true _ | rfl) ?_; conv => whnf) | (refine Br.no (by first | with_reducible rfl | with_reducible exact bne_self_eq_false _ | rfl) ?_; conv => whnf)))
        refine Sm.live [3, 4, 7, 9, 42, 43, 44, 83] ?_
        conv => whnf
        refine Sm.ofW ?_
        conv => whnf
        repeat (first | (refine Br.no b4 ?_; conv => whnf) | (first | (refine Br.yes (by first | with_reducible rfl | with_reducible exact beq_self_eq_true _ | rfl) ?_; conv => whnf) | (refine Br.no (by first | with_reducible rfl | with_reducible exact bne_self_eq_false _ | rfl) ?_; conv => whnf)))
        refine Sm.seq ?_
        refine Sm.seqW ?_
        conv => whnf
        (refine hp.load (by repeat (first | exact Has.here | apply Has.there | (apply Has.swap; repeat (first | exact HasR.here | apply HasR.there)))) (by rfl) rfl rfl rfl ?_; conv => whnf)
        refine Om.of _ (str_slice Tryd.underlying9 (l := xs) .i64 .i64 (some at_) (some T.at_) (by simp only [Option.getD_some]; omega) (by simp only [Option.getD_some]; omega)) ?_
        conv => whnf
        refine hp.range Tryd.underlying9 ⟨((xs.drop at_).take (T.at_ - at_)).toArray⟩ ?_
        clear hp
        intro pi s hp _
        conv => whnf
        refine Sm.live [3, 4, 7, 9, 42, 43, 44, 89] ?_
        conv => whnf
        refine Sm.block ?_
        refine Sm.loop ?_
        have hxl : ((xs.drop at_).take (T.at_ - at_)).length = T.at_ - at_ := by simp; omega
        have hxg : ∀ j, j < T.at_ - at_ → (bs ⟨((xs.drop at_).take (T.at_ - at_)).toArray⟩)[j]? = some 32 := fun j hj => by
          show ((xs.drop at_).take (T.at_ - at_))[j]? = some 32
          rw [P3, List.getElem?_replicate, if_pos hj]
        have hxe : (bs ⟨((xs.drop at_).take (T.at_ - at_)).toArray⟩)[T.at_ - at_]? = none := by
          show ((xs.drop at_).take (T.at_ - at_))[T.at_ - at_]? = none
          exact List.getElem?_eq_none (by omega)
        generalize (⟨((xs.drop at_).take (T.at_ - at_)).toArray⟩ : ByteArray) = G at *
        refine Lp.ofS (α := Nat) (fun j => [(3, sv xs), (4, .slice a1 ts.length c1), (7, .int .i64 (at_ : Int)), (9, .pointer (some ⟨p9, 0, none⟩)), (42, .slice a1 ts.length c1), (43, .int .i64 ((ts.length : Nat) : Int)), (44, .int .i64 (i : Int)), (89, .pointer (some ⟨pi, 0, none⟩))])
          (fun j s' => j ≤ T.at_ - at_ ∧ Hp (fun _ => False) s0 R [itA pi G j, blkA p9 p9 T.cells 3, onA κ1 (.slice a1 ts.length c1) 3 ts.length (tkC ts)] s') (fun j => T.at_ - at_ - j) ?_ 0 (subK_ok (by refine ⟨rfl, rfl, rfl, rfl, rfl, rfl, rfl, rfl, trivial⟩)) ⟨Nat.zero_le _, hp.pik (by repeat (first | exact Pik.nil | exact Pik.refl _ | exact Rm.here | apply Rm.there | apply Pik.cons | apply Pik.skip))⟩
        clear hp
        rintro j s ⟨hj, hp⟩

        refine Sm.seqW ?_
        conv => whnf
        by_cases hjn : j < T.at_ - at_
        · refine hp.next (by repeat (first | exact Rm.here | apply Rm.there)) (hxg j hjn) (by decide) ?_
          clear hp
          intro s hp
          conv => whnf
          repeat (first | (refine Br.yes (by first | with_reducible rfl | with_reducible exact beq_self_eq_true _ | rfl) ?_; conv => whnf) | (refine Br.no (by first | with_reducible rfl | with_reducible exact bne_self_eq_false _ | rfl) ?_; conv => whnf))
          refine Sm.live [3, 4, 7, 9, 42, 43, 44, 89, 90, 91] ?_
          conv => whnf
          refine Sm.seq ?_
          refine Sm.ofW ?_
          conv => whnf
          repeat (first | (refine Br.yes (by first | with_reducible rfl | with_reducible exact beq_self_eq_true _ | rfl) ?_; conv => whnf) | (refine Br.no (by first | with_reducible rfl | with_reducible exact bne_self_eq_false _ | rfl) ?_; conv => whnf))
          refine Sm.block ?_
          refine Sm.seqW ?_
          conv => whnf
          refine Sm.seqW ?_
          conv => whnf
          repeat (first | (refine Br.yes (by first | with_reducible rfl | with_reducible exact beq_self_eq_true _ | rfl) ?_; conv => whnf) | (refine Br.no (by first | with_reducible rfl | with_reducible exact bne_self_eq_false _ | rfl) ?_; conv => whnf))
          refine Sm.ofW ?_
          conv => whnf
          repeat (first | (refine Br.yes (by first | with_reducible rfl | with_reducible exact beq_self_eq_true _ | rfl) ?_; conv => whnf) | (refine Br.no (by first | with_reducible rfl | with_reducible exact bne_self_eq_false _ | rfl) ?_; conv => whnf))
          exact ⟨j + 1, by (show T.at_ - at_ - (j + 1) < T.at_ - at_ - j); omega, subK_ok (by refine ⟨rfl, rfl, rfl, rfl, rfl, rfl, rfl, rfl, trivial⟩), by omega, hp⟩
        · obtain rfl : j = T.at_ - at_ := by omega
          refine hp.nextEnd (by repeat (first | exact Rm.here | apply Rm.there)) hxe ?_
          conv => whnf
          refine Sm.live [3, 4, 7, 9, 42, 43, 44, 89, 90, 91] ?_
          conv => whnf
          refine Sm.seq ?_
          refine Sm.ofW ?_
          conv => whnf
          repeat (first | (refine Br.yes (by first | with_reducible rfl | with_reducible exact beq_self_eq_true _ | rfl) ?_; conv => whnf) | (refine Br.no (by first | with_reducible rfl | with_reducible exact bne_self_eq_false _ | rfl) ?_; conv => whnf))
          refine Sm.seq ?_
          refine Sm.seqW ?_
          conv => whnf
          refine ⟨[0, 0, 2, 0, 8, 0, 32, 96, 248, 511, 0, 1024, 4095], by decide +kernel, by decide +kernel, ?_⟩
          conv => whnf
          repeat (refine hp.load (by repeat (first | exact Has.here | apply Has.there | (apply Has.swap; repeat (first | exact HasR.here | apply HasR.there)))) (by rfl) rfl rfl rfl ?_; conv => whnf)
          rw [T1]
          refine Om.of _ (str_slice Tryd.underlying9 (l := xs) .i64 .i64 (some T.at_) (some (T.at_ + T.text.length)) (by simp only [Option.getD_some]; omega) (by simp only [Option.getD_some]; omega)) ?_
          conv => whnf
          repeat (refine hp.load (by repeat (first | exact Has.here | apply Has.there | (apply Has.swap; repeat (first | exact HasR.here | apply HasR.there)))) (by rfl) rfl rfl rfl ?_; conv => whnf)
          refine Om.of _ (str_ne ⟨((xs.drop T.at_).take (T.at_ + T.text.length - T.at_)).toArray⟩ ⟨T.text.toArray⟩) ?_
          conv => whnf
          have b5 : (!(bs ⟨((xs.drop T.at_).take (T.at_ + T.text.length - T.at_)).toArray⟩ == bs ⟨T.text.toArray⟩)) = false := by
            show (!(((xs.drop T.at_).take (T.at_ + T.text.length - T.at_)) == T.text)) = false
            rw [Nat.add_sub_cancel_left, P4, beq_self_eq_true]; rfl
          refine Sm.live [3, 4, 7, 9, 42, 43, 44, 107] ?_
          conv => whnf
          refine Sm.ofW ?_
          conv => whnf
          refine Br.no b5 ?_
          conv => whnf
          refine Sm.ofW ?_
          conv => whnf
          repeat (refine hp.load (by repeat (first | exact Has.here | apply Has.there | (apply Has.swap; repeat (first | exact HasR.here | apply HasR.there)))) (by rfl) rfl rfl rfl ?_; conv => whnf)
          rw [T1]
          exact ⟨rfl, hp.pik (by repeat (first | exact Pik.nil | exact Pik.refl _ | exact Rm.here | apply Rm.there | apply Pik.cons | apply Pik.skip)), subK_ok ⟨rfl, rfl, rfl, rfl, rfl, rfl, trivial⟩⟩
      · clear hp
        rintro e L' s ⟨rfl, hp, hs⟩
        refine Sm.weak _ hs ?_
        clear hs
        refine Sm.ofW ?_
        conv => whnf
        exact ⟨(i + 1, T.at_ + T.text.length), by (show ts.length - (i + 1) < ts.length - i); omega, subK_ok (by refine ⟨rfl, rfl, rfl, rfl, rfl, congrArg (fun x => some (Value.int .i64 x)) (show IntKind.i64.wrap ((i : Int) + 1) = ((i + 1 : Nat) : Int) by rw [wi64 (by omega) (by omega)]; omega), trivial⟩), by (show i + 1 ≤ ts.length); omega, P7, hp⟩
    · have hq : i = ts.length := by have := of_decide_eq_false hq; omega
      have hP : at_ = xs.length := by rw [hq, List.drop_length] at hP; exact hP
      conv => whnf
      refine Sm.seqW ?_
      conv => whnf
      refine hp.call (xknown_spec hp.wf) ?_
      clear hp
      rintro _ s rfl hp _
      conv => whnf
      have q1 := decide_eq_true (show (ts.length : Int) > 0 by have := List.length_pos_iff.2 hne; omega)
      have q2 : ((at_ : Int) == (((bs ⟨xs.toArray⟩).length : Nat) : Int)) = true := by rw [beq_iff_eq, hP]; rfl
      repeat (first | (refine Br.yes q1 ?_; conv => whnf) | (refine Br.yes q2 ?_; conv => whnf) | (first | (refine Br.yes (by first | with_reducible rfl | with_reducible exact beq_self_eq_true _ | rfl) ?_; conv => whnf) | (refine Br.no (by first | with_reducible rfl | with_reducible exact bne_self_eq_false _ | rfl) ?_; conv => whnf)))
      refine Sm.ofW ?_
      conv => whnf
      exact ⟨congrArg Value.bool (by first | rfl | exact q2)⟩
end Go.Ev
end
