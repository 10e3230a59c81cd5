/- Rolls: the records, told; a record is appended. No condition. -/
import Derived.Test.YtfbdnmcncgbifaaR5
noncomputable section
namespace Go.Ev
open Go.Proofs
set_option linter.unusedVariables false
set_option maxRecDepth 100000

theorem rrclone_spec {s : St} (wf : WF s) {κ : Option Nat} {v : Value} {l : List Rr} (h : Srr s κ v l) (hl : l.length ≤ 100000) :
    Cw Try.prog 36 [v] s fun r s' => K0 s s' ∧ OwnN s.next s' r 2 l.length (rrCells l) := by
  refine Cw.enter Try.func36 rfl rfl ?_
  rcases h.ex with ⟨rfl, h1, h2, rfl⟩ | ⟨b, off, c, C, rfl, hc, hlen, hs, hm⟩
  · conv => whnf
    refine Om.of (.bool true) rfl ?_
    conv => whnf
    refine Br.yes rfl ?_
    conv => whnf
    exact ⟨⟨Kp.refl wf, ⟨.inl ⟨rfl, h1, h2⟩⟩⟩⟩
  · conv => whnf
    refine Om.of (.bool false) rfl ?_
    conv => whnf
    refine Br.no rfl ?_
    conv => whnf
    obtain ⟨v1, s1, e1, o1, k1⟩ := buildSlice0 R39 wf
    refine Om.of (v1, s1) e1 ?_
    conv => whnf
    obtain ⟨v2, s2, e2, o2, k2⟩ := append_own R39 Try.underlying39 rfl k1.wf o1 (elems_sl (h.keep0 k1)) (rrCells_length l) (rrCells_one l) (by omega)
    refine Om.of (v2, s2) e2 ?_
    conv => whnf
    rw [Nat.zero_add, List.nil_append] at o2
    exact ⟨⟨k1.trans k2 fun j hj => .inr (by omega), o2.n k2.wf (Nat.le_refl _)⟩⟩
theorem rrclip_spec {s : St} {m : Nat} {v : Value} {l : List Rr} (h : OwnN m s v 2 l.length (rrCells l)) :
    Cw Try.prog 35 [v] s fun r s' => s' = s ∧ r = v := by
  obtain ⟨a, c, rfl⟩ := h.shape
  refine Cw.enter Try.func35 rfl rfl ?_
  conv => whnf
  refine Om.of _ (clip_ownN R39 h .i64 .i64) ?_
  conv => whnf
  exact ⟨⟨rfl, rfl⟩⟩
theorem Hp.rec2 {X : Nat → Prop} {s0 s : St} {R F : List At} {K : Value × St → Prop} (h : Hp X s0 R F s) (r : Rr) (hk : ∀ v b s', Hp X s0 R (ownA b v 2 1 (rrCells [r]) :: F) s' → K0 s s' → K (v, s')) : Om (evBuildSlice Try.prog 39 1 [(0, r.val)] s) K := by
  obtain ⟨k7, b7⟩ := new_kp h.wf r.cells 2
  refine .of (.slice (some ⟨s.next, 0, none⟩) 1 1, s.new r.cells 2) rfl (hk _ _ _ (h.push k7 ⟨_, rfl, b7, rfl⟩ fun j hj => by subst hj; exact Nat.le_refl _) k7)
section
variable {X : Nat → Prop} {s0 s : St} {R F G H : List At} {p v : Value} {kr br : Nat} {κ : Option Nat} {ro : RO} {ks kb : Nat} {σ : SL}
theorem records_spec (hp : Hp X s0 R F s) (m : Has (blkA kr br (roCells p ro v) 5) F R) (hv : Srr s κ v ro.l) (hl : ro.l.length ≤ 100000) :
    Cw Try.prog 17 [.pointer (some ⟨br, 0, none⟩)] s fun r s' => K0 s s' ∧ OwnN s.next s' r 2 ro.l.length (rrCells ro.l) := by
  obtain ⟨a, c, rfl⟩ := hv.shape
  refine Cw.enterS Try.func17 rfl rfl ?_
  refine Sm.seqW ?_
  conv => whnf
  refine Sm.seq ?_
  refine Sm.seqW ?_
  conv => whnf
  refine Om.of (.bool false) rfl ?_
  conv => whnf
  refine Sm.ofW ?_
  conv => whnf
  refine Br.no rfl ?_
  conv => whnf
  refine Sm.ofW ?_
  conv => whnf
  refine hp.load m rfl rfl rfl rfl ?_
  conv => whnf
  refine (rrclone_spec hp.wf hv hl).mono ?_
  rintro w s1 ⟨k1, o1⟩
  conv => whnf
  refine (rrclip_spec o1).mono ?_
  rintro _ _ ⟨rfl, rfl⟩
  conv => whnf
  exact ⟨k1, o1⟩
/-- What Append answers. -/
inductive ApE where
  | ok | arg | full | down
def ApE.n : ApE → Int
  | .ok => 0
  | .arg => 1
  | .full => 5
  | .down => 6
/-- The error, the slab, the roll behind it. -/
def appF (σ : SL) (ro : RO) (r : Rr) : ApE × SL × RO :=
  if r.seq ≤ lastF ro.l ∨ 420 < (bs r.body).length then (.arg, σ, ro)
  else if (ro.size : Int) - ro.used < (layF r ro.used).length then (.full, σ, ro)
  else if (σ.write ((ro.at_ : Int) + ro.used) (layF r ro.used)).2 = true then (.ok, (σ.write ((ro.at_ : Int) + ro.used) (layF r ro.used)).1, { ro with l := ro.l ++ [r], used := ro.used + (layF r ro.used).length })
  else (.down, (σ.write ((ro.at_ : Int) + ro.used) (layF r ro.used)).1, ro)
theorem layF_len (r : Rr) (n : Int) : (layF r n).length = 19 + (Pk.encI ((bs r.body).length : Int)).length + (bs r.body).length := by
  unfold layF layB; simp [bytes8_len]; omega
theorem append_spec (hp : Hp X s0 R F s) (h1 : Rm (blkA kr br (roCells p ro v) 5) F G) (h2 : Rm (onA κ v 2 ro.l.length (rrCells ro.l)) G H) {H' : List At} (h3 : Rm (slabA p ks kb σ) H H') (hz : ro.size ≤ 8192) (hu : ro.used ≤ 8192) (ha : ro.at_ ≤ 65536) (hl : ro.l.length ≤ 10000)
    (r : Rr) (hb : (bs r.body).length ≤ 140737488351232) {K : Value → St → Prop}
    (hK : ∀ v' κ' s', Hp X s0 R (blkA kr br (roCells p (appF σ ro r).2.2 v') 5 :: onA κ' v' 2 (appF σ ro r).2.2.l.length (rrCells (appF σ ro r).2.2.l) :: slabA p ks kb (appF σ ro r).2.1 :: H') s' → K (.int .i64 (appF σ ro r).1.n) s') :
    Cw Try.prog 11 [.pointer (some ⟨br, 0, none⟩), .int .i64 r.seq, .string r.body] s K := by
  replace hp : Hp X s0 R (blkA kr br (roCells p ro v) 5 :: onA κ v 2 ro.l.length (rrCells ro.l) :: slabA p ks kb σ :: H') s := hp.pik (.cons h1 (.cons h2 (.cons h3 (.refl H'))))
  clear h1 h2 h3
  obtain ⟨av, cv, rfl⟩ := (hp.slF (by repeat (first | exact Rm.here | apply Rm.there))).shape
  obtain ⟨bp, bb, rfl, -, -⟩ := (hp.slab (p := p) (ks := ks) (kb := kb) (σ := σ) (by repeat (first | exact Has.here | apply Has.there | (apply Has.swap; repeat (first | exact HasR.here | apply HasR.there))))).ex
  refine Cw.enterS Try.func11 rfl rfl ?_
  refine Sm.seqW ?_
  conv => whnf
  refine Sm.seq ?_
  by_cases hc : r.seq ≤ lastF ro.l ∨ 420 < (bs r.body).length
  · have hA : appF σ ro r = (.arg, σ, ro) := by unfold appF; rw [if_pos hc]
    rw [hA] at hK
    refine Sm.seqW ?_
    conv => whnf
    refine Om.of (.bool false) rfl ?_
    conv => whnf
    repeat (refine Br.no rfl ?_; conv => whnf)
    refine (last_spec hp (by repeat (first | exact Has.here | apply Has.there | (apply Has.swap; repeat (first | exact HasR.here | apply HasR.there)))) (hp.slF (by repeat (first | exact Rm.here | apply Rm.there))) (by omega)).mono ?_
    rintro _ _ ⟨rfl, rfl⟩
    conv => whnf
    repeat (refine Br.no rfl ?_; conv => whnf)
    by_cases hs : r.seq ≤ lastF ro.l
    · have d1 : decide (r.seq ≤ lastF ro.l) = true := decide_eq_true hs
      repeat (first | (refine Br.yes (by first | with_reducible rfl | exact d1) ?_; conv => whnf))
      refine Sm.ofW ?_
      conv => whnf
      repeat (first | (refine Br.yes (by first | with_reducible rfl | exact d1) ?_; conv => whnf))
      exact ⟨hK _ _ _ hp⟩
    · have d1 : decide (r.seq ≤ lastF ro.l) = false := decide_eq_false hs
      have d2 : decide (((bs r.body).length : Int) > 420) = true := decide_eq_true (by omega)
      repeat (first | (refine Br.no (by first | with_reducible rfl | exact d1) ?_; conv => whnf))
      refine Sm.ofW ?_
      conv => whnf
      repeat (first | (refine Br.yes (by first | with_reducible rfl | exact d2) ?_; conv => whnf))
      exact ⟨hK _ _ _ hp⟩
  have d1 : decide (r.seq ≤ lastF ro.l) = false := decide_eq_false (fun h => hc (.inl h))
  have d2 : decide (((bs r.body).length : Int) > 420) = false := decide_eq_false (fun h => hc (.inr (by omega)))
  have hb2 : (bs r.body).length ≤ 420 := by omega
  have hel := Pk.encI_len (n := ((bs r.body).length : Int)) (by unfold Pk.inR; omega)
  have hlay := layF_len r ro.used
  refine Sm.seqW ?_
  conv => whnf
  refine Om.of (.bool false) rfl ?_
  conv => whnf
  repeat (refine Br.no rfl ?_; conv => whnf)
  refine (last_spec hp (by repeat (first | exact Has.here | apply Has.there | (apply Has.swap; repeat (first | exact HasR.here | apply HasR.there)))) (hp.slF (by repeat (first | exact Rm.here | apply Rm.there))) (by omega)).mono ?_
  rintro _ _ ⟨rfl, rfl⟩
  conv => whnf
  repeat (first | (refine Br.no (by first | with_reducible rfl | exact d1) ?_; conv => whnf))
  refine Sm.ofW ?_
  conv => whnf
  refine Br.no d2 ?_
  conv => whnf
  refine Sm.live [0, 1, 2] ?_
  conv => whnf
  refine Sm.seqW ?_
  conv => whnf
  refine hp.alloc (cs := Rr.cells ⟨0, ⟨#[]⟩⟩) (e := 2) rfl rfl rfl rfl rfl ?_
  clear hp
  intro b7 s hp _
  conv => whnf
  refine hp.storeW (vs := r.cells) rfl (by repeat (first | exact Rm.here | apply Rm.there)) (by rfl) rfl rfl rfl ?_
  clear hp
  intro s hp _
  conv => whnf
  refine Sm.live [0, 7] ?_
  conv => whnf
  -- its bytes
  refine Sm.seqW ?_
  conv => whnf
  refine ⟨[0, 0, 2, 6, 14, 31, 63], by decide +kernel, by decide +kernel, ?_⟩
  conv => whnf
  refine hp.loadA (l := r.cells) (by repeat (first | exact Has.here | apply Has.there | (apply Has.swap; repeat (first | exact HasR.here | apply HasR.there)))) rfl (by rfl) rfl rfl ?_
  conv => whnf
  (refine hp.load (by repeat (first | exact Has.here | apply Has.there | (apply Has.swap; repeat (first | exact HasR.here | apply HasR.there)))) (by rfl) rfl rfl rfl ?_; conv => whnf)
  refine hp.rst.callO (laid_spec hp.rst.wf r (by omega) (ro.used : Int)) ?_
  intro v8 κ8 s8 h8 k8
  conv => whnf
  refine hp.dkN h8 k8 ?_
  clear hp h8 k8
  intro s hp
  obtain ⟨a8, c8, rfl⟩ := (hp.slF .here).shape
  conv => whnf
  refine Sm.live [0, 7, 8] ?_
  conv => whnf
  refine Sm.seq (Sm.block ?_)
  refine Sm.seqW ?_
  conv => whnf
  refine (left_spec hp (by repeat (first | exact Has.here | apply Has.there | (apply Has.swap; repeat (first | exact HasR.here | apply HasR.there)))) (by omega) (by omega)).mono ?_
  rintro _ _ ⟨rfl, rfl⟩
  conv => whnf
  refine Sm.ofW ?_
  conv => whnf
  by_cases hf : (ro.size : Int) - ro.used < (layF r ro.used).length
  · have hA : appF σ ro r = (.full, σ, ro) := by unfold appF; rw [if_neg hc, if_pos hf]
    rw [hA] at hK
    refine Br.yes (decide_eq_true (by omega)) ?_
    conv => whnf
    exact ⟨hK _ _ _ (hp.pik (by repeat (first | exact Pik.nil | exact Pik.refl _ | exact Rm.here | apply Rm.there | apply Pik.cons | apply Pik.skip)))⟩
  refine Br.no (decide_eq_false (by omega)) ?_
  conv => whnf
  refine ⟨[0, 1, 3, 7, 0, 16, 48, 112, 0, 256, 768, 1792, 4080, 0, 16383, 32767, 65535], by decide +kernel, by decide +kernel, ?_⟩
  conv => whnf
  (refine hp.load (by repeat (first | exact Has.here | apply Has.there | (apply Has.swap; repeat (first | exact HasR.here | apply HasR.there)))) (by rfl) rfl rfl rfl ?_; conv => whnf)
  (refine hp.load (by repeat (first | exact Has.here | apply Has.there | (apply Has.swap; repeat (first | exact HasR.here | apply HasR.there)))) (by rfl) rfl rfl rfl ?_; conv => whnf)
  (refine hp.load (by repeat (first | exact Has.here | apply Has.there | (apply Has.swap; repeat (first | exact HasR.here | apply HasR.there)))) (by rfl) rfl rfl rfl ?_; conv => whnf)
  have e1 : IntKind.i64.wrap ((ro.at_ : Int) + (ro.used : Int)) = (ro.at_ : Int) + ro.used := wi64 (by omega) (by omega)
  rw [e1]
  refine hp.rst.sWrite (by repeat (first | exact Rm.here | apply Rm.there)) _ (by repeat (first | exact Has.here | apply Has.there | (apply Has.swap; repeat (first | exact HasR.here | apply HasR.there)))) ?_
  intro s9 h9
  conv => whnf
  cases hw : (σ.write ((ro.at_ : Int) + ro.used) (layF r ro.used)).2 with
  | false =>
    have hA : appF σ ro r = (.down, (σ.write ((ro.at_ : Int) + ro.used) (layF r ro.used)).1, ro) := by unfold appF; rw [if_neg hc, if_neg hf, if_neg (by rw [hw]; decide)]
    rw [hA] at hK
    refine hp.dkA h9 ?_ ?_
    all_goals
      clear hp h9
      intro s hp
      conv => whnf
      refine Br.yes rfl ?_
      conv => whnf
      exact ⟨hK _ _ _ (hp.pik (by repeat (first | exact Pik.nil | exact Pik.refl _ | exact Rm.here | apply Rm.there | apply Pik.cons | apply Pik.skip)))⟩
  | true =>
    have hA : appF σ ro r = (.ok, (σ.write ((ro.at_ : Int) + ro.used) (layF r ro.used)).1, { ro with l := ro.l ++ [r], used := ro.used + (layF r ro.used).length }) := by unfold appF; rw [if_neg hc, if_neg hf, if_pos hw]
    rw [hA] at hK
    refine hp.dkA h9 ?_ ?_
    all_goals
      clear hp h9
      intro s hp
      conv => whnf
      refine Br.no rfl ?_
      conv => whnf
      refine Sm.live [0, 7, 8] ?_
      conv => whnf
      -- one record more
      refine Sm.seqW ?_
      conv => whnf
      refine ⟨[0, 0, 2, 6, 14, 0, 32, 126, 255, 511, 1023], by decide +kernel, by decide +kernel, ?_⟩
      conv => whnf
      (refine hp.load (by repeat (first | exact Has.here | apply Has.there | (apply Has.swap; repeat (first | exact HasR.here | apply HasR.there)))) (by rfl) rfl rfl rfl ?_; conv => whnf)
      refine hp.loadA (l := r.cells) (by repeat (first | exact Has.here | apply Has.there | (apply Has.swap; repeat (first | exact HasR.here | apply HasR.there)))) rfl (by rfl) rfl rfl ?_
      conv => whnf
      refine hp.rst.rec2 r ?_
      intro v7 b9 s7 h7 k7
      conv => whnf
      refine hp.dkN h7 k7 ?_
      clear hp h7 k7
      intro s7 hp
      conv => whnf
      have x7 : Srr (reset s7) (some b9) v7 [r] := Own.sl (hp.rst.okF _ List.mem_cons_self)
      refine hp.rst.app R39 Try.underlying39 rfl (by repeat (first | exact Rm.here | apply Rm.there)) (elems_sl x7) rfl (rrCells_one [r]) (by simp only [List.length_singleton]; omega) ?_
      intro v9 κ9 s9 h9
      rw [← rrCells_append] at h9
      conv => whnf
      obtain ⟨a9, c9, rfl⟩ := (h9.slF (by repeat (first | exact Rm.here | apply Rm.there))).shape
      refine hp.dkA h9 ?_ ?_
      all_goals
        clear hp h9 x7
        intro s hp
        conv => whnf
        (refine hp.rst.store (by repeat (first | exact Rm.here | apply Rm.there)) (by first | exact of_decide_eq_true rfl | (simp; done) | (simp; omega) | omega) rfl rfl rfl rfl ?_; intro s1 h1 l1; (conv => whnf); refine hp.dkW h1 l1 ?_; clear h1 l1; intro s hp; conv => whnf)
        refine Sm.live [0, 7, 8] ?_
        conv => whnf
        refine Sm.seqW ?_
        conv => whnf
        (refine hp.load (by repeat (first | exact Has.here | apply Has.there | (apply Has.swap; repeat (first | exact HasR.here | apply HasR.there)))) (by rfl) rfl rfl rfl ?_; conv => whnf)
        (refine hp.store (by repeat (first | exact Rm.here | apply Rm.there)) (by first | exact of_decide_eq_true rfl | (simp; done) | (simp; omega) | omega) rfl rfl rfl rfl ?_; intro s hp _; conv => whnf)
        have e2 : IntKind.i64.wrap ((ro.used : Int) + ((layF r ro.used).length : Int)) = ((ro.used + (layF r ro.used).length : Nat) : Int) := by
          rw [wi64 (by omega) (by omega)]; push_cast; rfl
        rw [e2] at hp
        refine Sm.ofW ?_
        conv => whnf
        have hq : (ro.l ++ [r]).length = ro.l.length + 1 := by simp
        refine ⟨hK (.slice a9 (ro.l.length + 1) c9) κ9 _ ?_⟩
        simp only [hq]
        exact hp.pik (by repeat (first | exact Pik.nil | exact Pik.refl _ | exact Rm.here | apply Rm.there | apply Pik.cons | apply Pik.skip))
end
end Go.Ev
