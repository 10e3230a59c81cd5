/- Several texts in one: what the law's text leans on, one behind the other. No condition but those that each theorem names. -/
import Derived.Test.YtcjonnndpkohoaaGQuantUnits2
/- QuantTells walked. No condition. -/
noncomputable section
namespace Go.Ev
open Go.Proofs
set_option linter.unusedVariables false
set_option maxRecDepth 100000

theorem quantTells_walk {s0 : St} (wf : WF s0) {n scale bend m other twist to mode : Int} (hn : inR n) (hsc : inR scale) (hbe : inR bend) (hm : inR m) (hot : inR other) (htw : inR twist) (hto : inR to) (hmo : inR mode) :
    Cw Try.prog 4 [.int .i64 n, .int .i64 scale, .int .i64 bend, .int .i64 m, .int .i64 other, .int .i64 twist, .int .i64 to, .int .i64 mode] s0 fun r _ => r = .bool true := by
  have hp : Hp (fun _ => False) s0 [] [] s0 := Hp.start _ wf _ (by simp)
  have b1 := Int.emod_nonneg to (show (13 : Int) ≠ 0 by decide)
  have b2 := Int.emod_lt_of_pos to (show (0 : Int) < 13 by decide)
  have b3 := Int.emod_nonneg mode (show (7 : Int) ≠ 0 by decide)
  have b4 := Int.emod_lt_of_pos mode (show (0 : Int) < 7 by decide)
  have e1 : IntKind.i64.wrap (to % 13 - 2) = to % 13 - 2 := wi64 (by omega) (by omega)
  have e2 : IntKind.i64.wrap (mode % 7 - 1) = mode % 7 - 1 := wi64 (by omega) (by omega)
  refine Cw.enterS Try.func4 rfl rfl ?_
  refine Sm.seqW ?_
  conv => whnf
  refine Sm.live [0, 1, 2, 3, 4, 5, 6, 7] ?_
  conv => whnf
  refine Sm.seqW ?_
  conv => whnf
  refine hp.call (hdec_spec hp.wf hn hsc hbe) ?_
  clear hp
  rintro _ s ⟨a, aw, asc, rfl⟩ hp _
  conv => whnf
  refine hp.alloc (cs := Dc.zero.cells) (e := 4) rfl rfl rfl rfl rfl ?_
  clear hp
  intro p17 s hp _
  conv => whnf
  refine hp.storeW (vs := a.cells) rfl (by repeat (first | exact Rm.here | apply Rm.there)) (by rfl) rfl rfl rfl ?_
  clear hp
  intro s hp _
  conv => whnf
  refine Sm.live [3, 4, 5, 6, 7, 17] ?_
  conv => whnf
  refine Sm.seqW ?_
  conv => whnf
  refine hp.call (hdec_spec hp.wf hm hot htw) ?_
  clear hp
  rintro _ s ⟨b, bw, bsc, rfl⟩ hp _
  conv => whnf
  refine hp.alloc (cs := Dc.zero.cells) (e := 4) rfl rfl rfl rfl rfl ?_
  clear hp
  intro p18 s hp _
  conv => whnf
  refine hp.storeW (vs := b.cells) rfl (by repeat (first | exact Rm.here | apply Rm.there)) (by rfl) rfl rfl rfl ?_
  clear hp
  intro s hp _
  conv => whnf
  refine Sm.live [6, 7, 17, 18] ?_
  conv => whnf
  refine Sm.seqW ?_
  conv => whnf
  refine (pick_spec _ hto (m := 13) (by decide) (by decide)).mono ?_
  rintro _ s1 ⟨h1, rfl⟩
  obtain rfl := h1.symm
  conv => whnf
  rw [e1]
  generalize to % 13 - 2 = T
  refine Sm.live [6, 7, 17, 18] ?_
  conv => whnf
  refine Sm.seqW ?_
  conv => whnf
  refine (pick_spec _ hmo (m := 7) (by decide) (by decide)).mono ?_
  rintro _ s1 ⟨h1, rfl⟩
  obtain rfl := h1.symm
  conv => whnf
  rw [e2]
  generalize mode % 7 - 1 = M
  refine Sm.live [6, 7, 17, 18] ?_
  conv => whnf
  obtain ⟨q, qe, hqx⟩ := quantF_shape a T M
  obtain ⟨d, de, hdx⟩ := divF_shape a b T M
  obtain ⟨t, te, htx⟩ := timesF_shape a b T M
  obtain ⟨u, ue, hux⟩ := unitF_shape a b M
  refine Sm.seqW ?_
  conv => whnf
  refine hp.loadA (l := a.cells) (by repeat (first | exact Has.here | apply Has.there | (apply Has.swap; repeat (first | exact HasR.here | apply HasR.there)))) rfl (by rfl) rfl rfl ?_
  conv => whnf
  refine hp.call (quant_spec hp.wf a aw T M) ?_
  clear hp
  rintro _ s rfl hp _
  conv => whnf
  rw [hqx]
  conv => whnf
  refine hp.alloc (cs := Dc.zero.cells) (e := 4) rfl rfl rfl rfl rfl ?_
  clear hp
  intro p19 s hp _
  conv => whnf
  refine hp.storeW (vs := q.cells) rfl (by repeat (first | exact Rm.here | apply Rm.there)) (by rfl) rfl rfl rfl ?_
  clear hp
  intro s hp _
  conv => whnf
  refine Sm.live [6, 7, 17, 18, 19, 20] ?_
  conv => whnf
  refine Sm.seqW ?_
  conv => whnf
  refine hp.loadA (l := a.cells) (by repeat (first | exact Has.here | apply Has.there | (apply Has.swap; repeat (first | exact HasR.here | apply HasR.there)))) rfl (by rfl) rfl rfl ?_
  conv => whnf
  refine hp.loadA (l := b.cells) (by repeat (first | exact Has.here | apply Has.there | (apply Has.swap; repeat (first | exact HasR.here | apply HasR.there)))) rfl (by rfl) rfl rfl ?_
  conv => whnf
  refine hp.call (div_spec hp.wf a b aw bw T M) ?_
  clear hp
  rintro _ s rfl hp _
  conv => whnf
  rw [hdx]
  conv => whnf
  refine hp.alloc (cs := Dc.zero.cells) (e := 4) rfl rfl rfl rfl rfl ?_
  clear hp
  intro p21 s hp _
  conv => whnf
  refine hp.storeW (vs := d.cells) rfl (by repeat (first | exact Rm.here | apply Rm.there)) (by rfl) rfl rfl rfl ?_
  clear hp
  intro s hp _
  conv => whnf
  refine Sm.live [6, 7, 17, 18, 19, 20, 21, 22] ?_
  conv => whnf
  refine Sm.seqW ?_
  conv => whnf
  refine hp.loadA (l := a.cells) (by repeat (first | exact Has.here | apply Has.there | (apply Has.swap; repeat (first | exact HasR.here | apply HasR.there)))) rfl (by rfl) rfl rfl ?_
  conv => whnf
  refine hp.loadA (l := b.cells) (by repeat (first | exact Has.here | apply Has.there | (apply Has.swap; repeat (first | exact HasR.here | apply HasR.there)))) rfl (by rfl) rfl rfl ?_
  conv => whnf
  refine hp.call (times_spec hp.wf a b aw bw T M) ?_
  clear hp
  rintro _ s rfl hp _
  conv => whnf
  rw [htx]
  conv => whnf
  refine hp.alloc (cs := Dc.zero.cells) (e := 4) rfl rfl rfl rfl rfl ?_
  clear hp
  intro p23 s hp _
  conv => whnf
  refine hp.storeW (vs := t.cells) rfl (by repeat (first | exact Rm.here | apply Rm.there)) (by rfl) rfl rfl rfl ?_
  clear hp
  intro s hp _
  conv => whnf
  refine Sm.live [6, 7, 17, 18, 19, 20, 21, 22, 23, 24] ?_
  conv => whnf
  refine Sm.seqW ?_
  conv => whnf
  refine hp.loadA (l := a.cells) (by repeat (first | exact Has.here | apply Has.there | (apply Has.swap; repeat (first | exact HasR.here | apply HasR.there)))) rfl (by rfl) rfl rfl ?_
  conv => whnf
  refine hp.loadA (l := b.cells) (by repeat (first | exact Has.here | apply Has.there | (apply Has.swap; repeat (first | exact HasR.here | apply HasR.there)))) rfl (by rfl) rfl rfl ?_
  conv => whnf
  refine hp.call (unit_spec hp.wf a b aw bw M) ?_
  clear hp
  rintro _ s rfl hp _
  conv => whnf
  rw [hux]
  conv => whnf
  refine hp.alloc (cs := Dc.zero.cells) (e := 4) rfl rfl rfl rfl rfl ?_
  clear hp
  intro p25 s hp _
  conv => whnf
  refine hp.storeW (vs := u.cells) rfl (by repeat (first | exact Rm.here | apply Rm.there)) (by rfl) rfl rfl rfl ?_
  clear hp
  intro s hp _
  conv => whnf
  refine Sm.live [6, 7, 17, 18, 19, 20, 21, 22, 23, 24, 25, 26] ?_
  conv => whnf
  refine Sm.seqW ?_
  conv => whnf
  refine hp.loadA (l := a.cells) (by repeat (first | exact Has.here | apply Has.there | (apply Has.swap; repeat (first | exact HasR.here | apply HasR.there)))) rfl (by rfl) rfl rfl ?_
  conv => whnf
  refine hp.call (rquant_spec hp.wf a aw T M) ?_
  clear hp
  rintro _ s rfl hp _
  conv => whnf
  rw [hqx]
  conv => whnf
  refine hp.alloc (cs := Dc.zero.cells) (e := 4) rfl rfl rfl rfl rfl ?_
  clear hp
  intro p27 s hp _
  conv => whnf
  refine hp.storeW (vs := q.cells) rfl (by repeat (first | exact Rm.here | apply Rm.there)) (by rfl) rfl rfl rfl ?_
  clear hp
  intro s hp _
  conv => whnf
  refine Sm.live [6, 7, 17, 18, 19, 20, 21, 22, 23, 24, 25, 26, 27, 28] ?_
  conv => whnf
  refine Sm.seqW ?_
  conv => whnf
  refine hp.loadA (l := a.cells) (by repeat (first | exact Has.here | apply Has.there | (apply Has.swap; repeat (first | exact HasR.here | apply HasR.there)))) rfl (by rfl) rfl rfl ?_
  conv => whnf
  refine hp.loadA (l := b.cells) (by repeat (first | exact Has.here | apply Has.there | (apply Has.swap; repeat (first | exact HasR.here | apply HasR.there)))) rfl (by rfl) rfl rfl ?_
  conv => whnf
  refine hp.call (rdiv_spec hp.wf a b aw bw T M) ?_
  clear hp
  rintro _ s rfl hp _
  conv => whnf
  rw [hdx]
  conv => whnf
  refine hp.alloc (cs := Dc.zero.cells) (e := 4) rfl rfl rfl rfl rfl ?_
  clear hp
  intro p29 s hp _
  conv => whnf
  refine hp.storeW (vs := d.cells) rfl (by repeat (first | exact Rm.here | apply Rm.there)) (by rfl) rfl rfl rfl ?_
  clear hp
  intro s hp _
  conv => whnf
  refine Sm.live [6, 7, 17, 18, 19, 20, 21, 22, 23, 24, 25, 26, 27, 28, 29, 30] ?_
  conv => whnf
  refine Sm.seqW ?_
  conv => whnf
  refine hp.loadA (l := a.cells) (by repeat (first | exact Has.here | apply Has.there | (apply Has.swap; repeat (first | exact HasR.here | apply HasR.there)))) rfl (by rfl) rfl rfl ?_
  conv => whnf
  refine hp.loadA (l := b.cells) (by repeat (first | exact Has.here | apply Has.there | (apply Has.swap; repeat (first | exact HasR.here | apply HasR.there)))) rfl (by rfl) rfl rfl ?_
  conv => whnf
  refine hp.call (rtimes_spec hp.wf a b aw bw T M) ?_
  clear hp
  rintro _ s rfl hp _
  conv => whnf
  rw [htx]
  conv => whnf
  refine hp.alloc (cs := Dc.zero.cells) (e := 4) rfl rfl rfl rfl rfl ?_
  clear hp
  intro p31 s hp _
  conv => whnf
  refine hp.storeW (vs := t.cells) rfl (by repeat (first | exact Rm.here | apply Rm.there)) (by rfl) rfl rfl rfl ?_
  clear hp
  intro s hp _
  conv => whnf
  refine Sm.live [7, 17, 18, 19, 20, 21, 22, 23, 24, 25, 26, 27, 28, 29, 30, 31, 32] ?_
  conv => whnf
  refine Sm.seqW ?_
  conv => whnf
  refine hp.loadA (l := a.cells) (by repeat (first | exact Has.here | apply Has.there | (apply Has.swap; repeat (first | exact HasR.here | apply HasR.there)))) rfl (by rfl) rfl rfl ?_
  conv => whnf
  refine hp.loadA (l := b.cells) (by repeat (first | exact Has.here | apply Has.there | (apply Has.swap; repeat (first | exact HasR.here | apply HasR.there)))) rfl (by rfl) rfl rfl ?_
  conv => whnf
  refine hp.call (runit_spec hp.wf a b aw bw M) ?_
  clear hp
  rintro _ s rfl hp _
  conv => whnf
  rw [hux]
  conv => whnf
  refine hp.alloc (cs := Dc.zero.cells) (e := 4) rfl rfl rfl rfl rfl ?_
  clear hp
  intro p33 s hp _
  conv => whnf
  refine hp.storeW (vs := u.cells) rfl (by repeat (first | exact Rm.here | apply Rm.there)) (by rfl) rfl rfl rfl ?_
  clear hp
  intro s hp _
  conv => whnf
  refine Sm.live [19, 20, 21, 22, 23, 24, 25, 26, 27, 28, 29, 30, 31, 32, 33, 34] ?_
  conv => whnf
  refine Sm.seqW ?_
  conv => whnf
  refine hp.call ((qknown_spec hp.wf).mono fun r s' ⟨h1, h2⟩ => ⟨h2, h1⟩) ?_
  clear hp
  rintro _ s rfl hp _
  conv => whnf
  repeat (first | (refine Br.yes (by first | with_reducible rfl | with_reducible exact beq_self_eq_true _ | rfl) ?_; conv => whnf) | (refine Br.no (by first | with_reducible rfl | rfl) ?_; conv => whnf))
  refine hp.loadA (l := q.cells) (by repeat (first | exact Has.here | apply Has.there | (apply Has.swap; repeat (first | exact HasR.here | apply HasR.there)))) rfl (by rfl) rfl rfl ?_
  conv => whnf
  repeat (first | (refine Br.yes (by first | with_reducible rfl | with_reducible exact beq_self_eq_true _ | rfl) ?_; conv => whnf) | (refine Br.no (by first | with_reducible rfl | rfl) ?_; conv => whnf))
  refine hp.loadA (l := q.cells) (by repeat (first | exact Has.here | apply Has.there | (apply Has.swap; repeat (first | exact HasR.here | apply HasR.there)))) rfl (by rfl) rfl rfl ?_
  conv => whnf
  repeat (first | (refine Br.yes (by first | with_reducible rfl | with_reducible exact beq_self_eq_true _ | rfl) ?_; conv => whnf) | (refine Br.no (by first | with_reducible rfl | rfl) ?_; conv => whnf))
  refine Om.of _ (dcv_eq q _) ?_
  conv => whnf
  repeat (first | (refine Br.yes (by first | with_reducible rfl | with_reducible exact beq_self_eq_true _ | rfl) ?_; conv => whnf) | (refine Br.no (by first | with_reducible rfl | rfl) ?_; conv => whnf))
  refine hp.loadA (l := d.cells) (by repeat (first | exact Has.here | apply Has.there | (apply Has.swap; repeat (first | exact HasR.here | apply HasR.there)))) rfl (by rfl) rfl rfl ?_
  conv => whnf
  repeat (first | (refine Br.yes (by first | with_reducible rfl | with_reducible exact beq_self_eq_true _ | rfl) ?_; conv => whnf) | (refine Br.no (by first | with_reducible rfl | rfl) ?_; conv => whnf))
  refine hp.loadA (l := d.cells) (by repeat (first | exact Has.here | apply Has.there | (apply Has.swap; repeat (first | exact HasR.here | apply HasR.there)))) rfl (by rfl) rfl rfl ?_
  conv => whnf
  repeat (first | (refine Br.yes (by first | with_reducible rfl | with_reducible exact beq_self_eq_true _ | rfl) ?_; conv => whnf) | (refine Br.no (by first | with_reducible rfl | rfl) ?_; conv => whnf))
  refine Om.of _ (dcv_eq d _) ?_
  conv => whnf
  repeat (first | (refine Br.yes (by first | with_reducible rfl | with_reducible exact beq_self_eq_true _ | rfl) ?_; conv => whnf) | (refine Br.no (by first | with_reducible rfl | rfl) ?_; conv => whnf))
  refine hp.loadA (l := t.cells) (by repeat (first | exact Has.here | apply Has.there | (apply Has.swap; repeat (first | exact HasR.here | apply HasR.there)))) rfl (by rfl) rfl rfl ?_
  conv => whnf
  repeat (first | (refine Br.yes (by first | with_reducible rfl | with_reducible exact beq_self_eq_true _ | rfl) ?_; conv => whnf) | (refine Br.no (by first | with_reducible rfl | rfl) ?_; conv => whnf))
  refine hp.loadA (l := t.cells) (by repeat (first | exact Has.here | apply Has.there | (apply Has.swap; repeat (first | exact HasR.here | apply HasR.there)))) rfl (by rfl) rfl rfl ?_
  conv => whnf
  repeat (first | (refine Br.yes (by first | with_reducible rfl | with_reducible exact beq_self_eq_true _ | rfl) ?_; conv => whnf) | (refine Br.no (by first | with_reducible rfl | rfl) ?_; conv => whnf))
  refine Om.of _ (dcv_eq t _) ?_
  conv => whnf
  repeat (first | (refine Br.yes (by first | with_reducible rfl | with_reducible exact beq_self_eq_true _ | rfl) ?_; conv => whnf) | (refine Br.no (by first | with_reducible rfl | rfl) ?_; conv => whnf))
  refine hp.loadA (l := u.cells) (by repeat (first | exact Has.here | apply Has.there | (apply Has.swap; repeat (first | exact HasR.here | apply HasR.there)))) rfl (by rfl) rfl rfl ?_
  conv => whnf
  repeat (first | (refine Br.yes (by first | with_reducible rfl | with_reducible exact beq_self_eq_true _ | rfl) ?_; conv => whnf) | (refine Br.no (by first | with_reducible rfl | rfl) ?_; conv => whnf))
  refine hp.loadA (l := u.cells) (by repeat (first | exact Has.here | apply Has.there | (apply Has.swap; repeat (first | exact HasR.here | apply HasR.there)))) rfl (by rfl) rfl rfl ?_
  conv => whnf
  repeat (first | (refine Br.yes (by first | with_reducible rfl | with_reducible exact beq_self_eq_true _ | rfl) ?_; conv => whnf) | (refine Br.no (by first | with_reducible rfl | rfl) ?_; conv => whnf))
  refine Om.of _ (dcv_eq u _) ?_
  conv => whnf
  repeat (first | (refine Br.yes (by first | with_reducible rfl | with_reducible exact beq_self_eq_true _ | rfl) ?_; conv => whnf) | (refine Br.no (by first | with_reducible rfl | rfl) ?_; conv => whnf))
  refine Sm.ofW ?_
  conv => whnf
  exact ⟨congrArg Value.bool (beq_self_eq_true ue)⟩
end Go.Ev
end

/- Four words: dec.cmp, dec.halves. No condition. -/
noncomputable section
namespace Go.Ev
open Go.Proofs
set_option linter.unusedVariables false
set_option maxRecDepth 100000

theorem wd_split (a i : Nat) : a / 2 ^ (64 * i) = 2 ^ 64 * (a / 2 ^ (64 * (i + 1))) + wd a i := by
  unfold wd
  rw [show 64 * (i + 1) = 64 * i + 64 by omega, Nat.pow_add, ← Nat.div_div_eq_div_mul]
  exact (Nat.div_add_mod _ _).symm
theorem cmpI_word {a b i : Nat} (h : a / 2 ^ (64 * (i + 1)) = b / 2 ^ (64 * (i + 1))) : (wd a i < wd b i → cmpI a b = -1) ∧ (wd b i < wd a i → cmpI a b = 1) ∧ (wd a i = wd b i → a / 2 ^ (64 * i) = b / 2 ^ (64 * i)) := by
  have ha := wd_split a i
  have hb := wd_split b i
  rw [h] at ha
  have lt : ∀ x y : Nat, x / 2 ^ (64 * i) < y / 2 ^ (64 * i) → x < y := fun x y g => by
    rcases Nat.lt_or_ge x y with k | k
    · exact k
    · have := Nat.div_le_div_right (c := 2 ^ (64 * i)) k; omega
  refine ⟨fun g => ?_, fun g => ?_, fun g => by omega⟩
  · have := lt a b (by omega)
    unfold cmpI; rw [if_pos this]
  · have := lt b a (by omega)
    unfold cmpI; rw [if_neg (by omega), if_neg (by omega)]
theorem wd_get (Q i : Nat) (hi : i < 4) : (natU (ws Q))[i]? = some (.int .u64 ((wd Q i : Nat) : Int)) := by
  obtain ⟨h1, h2⟩ := ws_get Q i hi
  rw [natU_get _ _ h1, h2]
theorem dcmp_spec {z : St} (wf : WF z) {a b : Nat} (ha : a < w256) (hb : b < w256) :
    Cw Try.prog 49 [W4 a, W4 b] z fun r s' => K0 z s' ∧ r = .int .i64 (cmpI a b) := by
  have hp : Hp (fun _ => False) z [] [] z := Hp.start _ wf _ (by simp)
  have top : ∀ x, x < w256 → x / 2 ^ (64 * 4) = 0 := fun x h => Nat.div_eq_of_lt h
  refine Cw.enterS Try.func49 rfl rfl ?_
  refine Sm.seqW ?_
  conv => whnf
  refine hp.var (cs := natU (ws a)) (e := 1) (w4_ws ha) rfl ?_
  clear hp
  intro p1 s hp _
  conv => whnf
  refine hp.var (cs := natU (ws b)) (e := 1) (w4_ws hb) rfl ?_
  clear hp
  intro p2 s hp _
  conv => whnf
  refine Sm.live [2, 3] ?_
  conv => whnf
  refine Sm.seq ?_
  refine Sm.seqW ?_
  conv => whnf
  refine Sm.block ?_
  refine Sm.loop ?_
  refine Lp.ofS (α := Nat) (fun k => [(2, .pointer (some ⟨p1, 0, none⟩)), (3, .pointer (some ⟨p2, 0, none⟩)), (5, .int .i64 ((k : Int) - 1))])
    (fun k s' => k ≤ 4 ∧ a / 2 ^ (64 * k) = b / 2 ^ (64 * k) ∧ Hp (fun _ => False) z [] [blkA p2 p2 (natU (ws b)) 1, blkA p1 p1 (natU (ws a)) 1] s') (fun k => k) ?_ 4 (subK_ok (by refine ⟨rfl, rfl, rfl, trivial⟩)) ⟨Nat.le_refl _, by rw [top a ha, top b hb], hp.pik (by repeat (first | exact Pik.nil | exact Pik.refl _ | exact Rm.here | apply Rm.there | apply Pik.cons | apply Pik.skip))⟩
  clear hp
  rintro k s ⟨hk, hE, hp⟩
  cases k with
  | zero =>
    refine Sm.seq ?_
    refine Sm.seqW ?_
    conv => whnf
    refine Sm.ofW ?_
    conv => whnf
    refine Br.no (rfl) ?_
    conv => whnf
    refine Sm.seqW ?_
    conv => whnf
    refine Sm.ofW ?_
    conv => whnf
    refine ⟨hp.fr, congrArg (Value.int .i64) ?_⟩
    have : a = b := by simpa using hE
    rw [this]
    unfold cmpI
    simp
  | succ i =>
    obtain ⟨c1, c2, c3⟩ := cmpI_word hE
    have hi : i < 4 := by omega
    have hk0 : decide ((i : Int) ≥ 0) = true := decide_eq_true (by omega)
    refine Sm.weak [(2, .pointer (some ⟨p1, 0, none⟩)), (3, .pointer (some ⟨p2, 0, none⟩)), (5, .int .i64 (i : Int))] (subK_ok ⟨rfl, rfl, congrArg (fun x => some (Value.int .i64 x)) (show ((i + 1 : Nat) : Int) - 1 = (i : Int) by push_cast; omega), trivial⟩) ?_
    have ix : ∀ b : Nat, evIndexAddr Try.prog 52 (.pointer (some ⟨b, 0, none⟩)) (.int .i64 (i : Int)) = some (.pointer (some ⟨b, 0 + i, none⟩)) := fun b => ixA Try.underlying52 (by rfl) rfl .i64 hi
    have g1 : (natU (ws a))[0 + i]? = some (.int .u64 ((wd a i : Nat) : Int)) := by rw [Nat.zero_add]; exact wd_get a i hi
    have g2 : (natU (ws b))[0 + i]? = some (.int .u64 ((wd b i : Nat) : Int)) := by rw [Nat.zero_add]; exact wd_get b i hi
    refine Sm.seq ?_
    refine Sm.seqW ?_
    conv => whnf
    refine Sm.ofW ?_
    conv => whnf
    refine Br.yes (hk0) ?_
    conv => whnf
    refine Sm.seq ?_
    refine Sm.block ?_
    refine Sm.seqW ?_
    conv => whnf
    refine ⟨[0, 1, 3, 0, 8, 24, 63], by decide +kernel, by decide +kernel, ?_⟩
    conv => whnf
    refine Om.of _ (ix p1) ?_
    conv => whnf
    refine hp.load (by repeat (first | exact Has.here | apply Has.there | (apply Has.swap; repeat (first | exact HasR.here | apply HasR.there)))) g1 rfl rfl rfl ?_
    conv => whnf
    refine Om.of _ (ix p2) ?_
    conv => whnf
    refine hp.load (by repeat (first | exact Has.here | apply Has.there | (apply Has.swap; repeat (first | exact HasR.here | apply HasR.there)))) g2 rfl rfl rfl ?_
    conv => whnf
    refine Sm.ofW ?_
    conv => whnf
    by_cases h1 : wd a i = wd b i
    · refine Br.no (bne_eq_false_iff_eq.2 (congrArg Int.ofNat h1)) ?_
      conv => whnf
      refine Sm.ofW ?_
      conv => whnf
      have ei : IntKind.i64.wrap ((i : Int) - 1) = (i : Int) - 1 := wi64 (by omega) (by omega)
      exact ⟨i, Nat.lt_succ_self i, subK_ok (by refine ⟨rfl, rfl, congrArg (fun x => some (Value.int .i64 x)) ei, trivial⟩), by omega, c3 h1, hp⟩
    · refine Br.yes (bne_iff_ne.2 (fun h => h1 (Int.ofNat.inj h))) ?_
      conv => whnf
      refine ⟨[0, 1, 3, 0, 8, 24, 63], by decide +kernel, by decide +kernel, ?_⟩
      conv => whnf
      refine Om.of _ (ix p1) ?_
      conv => whnf
      refine hp.load (by repeat (first | exact Has.here | apply Has.there | (apply Has.swap; repeat (first | exact HasR.here | apply HasR.there)))) g1 rfl rfl rfl ?_
      conv => whnf
      refine Om.of _ (ix p2) ?_
      conv => whnf
      refine hp.load (by repeat (first | exact Has.here | apply Has.there | (apply Has.swap; repeat (first | exact HasR.here | apply HasR.there)))) g2 rfl rfl rfl ?_
      conv => whnf
      by_cases h2 : wd a i < wd b i
      · refine Br.yes (decide_eq_true (by omega)) ?_
        conv => whnf
        exact ⟨hp.fr, congrArg (Value.int .i64) (c1 h2).symm⟩
      · refine Br.no (decide_eq_false (by omega)) ?_
        conv => whnf
        exact ⟨hp.fr, congrArg (Value.int .i64) (c2 (by omega)).symm⟩
theorem dhalves_spec {z : St} (wf : WF z) {n : Nat} (hn : n < w256) :
    Cw Try.prog 66 [W4 n] z fun r s' => K0 z s' ∧ r = .tuple #[W2 (n % w128), W2 (n / w128)] := by
  have hp : Hp (fun _ => False) z [] [] z := Hp.start _ wf _ (by simp)
  have e1 : n % w128 % w64 = n % w64 ∧ n % w128 / w64 = n / w64 % w64 ∧ n / w128 / w64 = n / w192 := by simp only [w64, w128, w192]; omega
  refine Cw.enterS Try.func66 rfl rfl ?_
  refine Sm.seqW ?_
  conv => whnf
  refine hp.var (cs := C4 (n % w64) (n / w64 % w64) (n / w128 % w64) (n / w192)) (e := 1) rfl rfl ?_
  clear hp
  intro p1 s hp _
  conv => whnf
  refine hp.alloc (cs := C2 0 0) (e := 1) rfl rfl rfl rfl rfl ?_
  clear hp
  intro p2 s hp _
  conv => whnf
  refine hp.alloc (cs := C2 0 0) (e := 1) rfl rfl rfl rfl rfl ?_
  clear hp
  intro p3 s hp _
  conv => whnf
  refine Sm.live [1, 2, 3] ?_
  conv => whnf
  refine Sm.seqW ?_
  conv => whnf
  refine ⟨[0, 1, 0, 4, 15, 0, 32, 0, 128, 480, 31, 2047], by decide +kernel, by decide +kernel, ?_⟩
  conv => whnf
  refine Om.of _ (rfl) ?_
  conv => whnf
  refine hp.load (v := .int .u64 ((n % w64 : Nat) : Int)) (by repeat (first | exact Has.here | apply Has.there | (apply Has.swap; repeat (first | exact HasR.here | apply HasR.there)))) (by rfl) rfl rfl rfl ?_
  conv => whnf
  refine Om.of _ (rfl) ?_
  conv => whnf
  refine hp.load (v := .int .u64 ((n / w64 % w64 : Nat) : Int)) (by repeat (first | exact Has.here | apply Has.there | (apply Has.swap; repeat (first | exact HasR.here | apply HasR.there)))) (by rfl) rfl rfl rfl ?_
  conv => whnf
  refine Om.of _ (rfl) ?_
  conv => whnf
  refine hp.load (v := .int .u64 ((n / w128 % w64 : Nat) : Int)) (by repeat (first | exact Has.here | apply Has.there | (apply Has.swap; repeat (first | exact HasR.here | apply HasR.there)))) (by rfl) rfl rfl rfl ?_
  conv => whnf
  refine Om.of _ (rfl) ?_
  conv => whnf
  refine hp.load (v := .int .u64 ((n / w192 : Nat) : Int)) (by repeat (first | exact Has.here | apply Has.there | (apply Has.swap; repeat (first | exact HasR.here | apply HasR.there)))) (by rfl) rfl rfl rfl ?_
  conv => whnf
  have hp0 := hp
  refine hp.rst.storeW (vs := C2 (n % w64) (n / w64 % w64)) rfl (by repeat (first | exact Rm.here | apply Rm.there)) (by rfl) rfl rfl rfl ?_
  intro s1 h1 l1
  conv => whnf
  refine hp.dkW h1 l1 ?_
  clear hp h1 l1
  intro s hp
  conv => whnf
  refine ⟨hp0.sa hp (by repeat (first | exact Has.here | apply Has.there | (apply Has.swap; repeat (first | exact HasR.here | apply HasR.there)))) (by repeat (first | exact Has.here | apply Has.there | (apply Has.swap; repeat (first | exact HasR.here | apply HasR.there)))), ?_⟩
  conv => whnf
  refine ⟨hp0.sa hp (by repeat (first | exact Has.here | apply Has.there | (apply Has.swap; repeat (first | exact HasR.here | apply HasR.there)))) (by repeat (first | exact Has.here | apply Has.there | (apply Has.swap; repeat (first | exact HasR.here | apply HasR.there)))), ?_⟩
  conv => whnf
  clear hp0
  refine hp.rst.storeW (vs := C2 (n / w128 % w64) (n / w192)) rfl (by repeat (first | exact Rm.here | apply Rm.there)) (by rfl) rfl rfl rfl ?_
  intro s1 h1 l1
  conv => whnf
  refine hp.dkW h1 l1 ?_
  clear hp h1 l1
  intro s hp
  conv => whnf
  refine Sm.live [2, 3] ?_
  conv => whnf
  refine Sm.ofW ?_
  conv => whnf
  refine hp.loadA (l := C2 (n % w64) (n / w64 % w64)) (by repeat (first | exact Has.here | apply Has.there | (apply Has.swap; repeat (first | exact HasR.here | apply HasR.there)))) rfl (by rfl) rfl rfl ?_
  conv => whnf
  refine hp.loadA (l := C2 (n / w128 % w64) (n / w192)) (by repeat (first | exact Has.here | apply Has.there | (apply Has.swap; repeat (first | exact HasR.here | apply HasR.there)))) rfl (by rfl) rfl rfl ?_
  conv => whnf
  refine ⟨hp.fr, ?_⟩
  unfold W2 A2
  rw [e1.1, e1.2.1, e1.2.2]
  rfl
end Go.Ev
end

/- Four words: dec.plus, dec.less. No condition. -/
noncomputable section
namespace Go.Ev
open Go.Proofs
set_option linter.unusedVariables false
set_option maxRecDepth 100000

theorem compl_u64 {x : Nat} (h : x < w64) : IntKind.u64.wrap (((BitVec.ofInt IntKind.u64.bits (if IntKind.u64.signed = true then -1 else IntKind.u64.max) ^^^ BitVec.ofInt IntKind.u64.bits (x : Int)).toNat : Nat) : Int) = ((w64 - 1 - x : Nat) : Int) := by
  have e : IntKind.u64.bits = 64 := rfl
  have e2 : (if IntKind.u64.signed = true then -1 else IntKind.u64.max) = ((18446744073709551615 : Nat) : Int) := rfl
  rw [e, e2, bv_nat, bv_nat]
  have e3 : BitVec.ofNat 64 18446744073709551615 ^^^ BitVec.ofNat 64 x = ~~~ BitVec.ofNat 64 x := by
    rw [show BitVec.ofNat 64 18446744073709551615 = BitVec.allOnes 64 by decide, BitVec.allOnes_xor]
  rw [e3, wrap_u64, BitVec.toNat_not, BitVec.toNat_ofNat, Nat.mod_eq_of_lt (show x < 2 ^ 64 from h)]
  simp only [w64] at *
  omega
theorem w4_parts {h l : Nat} (hl : l < w128) : W4 (h * w128 + l) = A4 (l % w64) (l / w64) (h % w64) (h / w64) := by
  have e : (h * w128 + l) % w64 = l % w64 ∧ (h * w128 + l) / w64 % w64 = l / w64 ∧ (h * w128 + l) / w128 % w64 = h % w64 ∧ (h * w128 + l) / w192 = h / w64 := by
    simp only [w64, w128, w192] at *; omega
  unfold W4
  rw [e.1, e.2.1, e.2.2.1, e.2.2.2]
theorem words_of2 {x y : Nat} (hx : x < w64) (hy : y < w64) : A2 x y = W2 (x + w64 * y) := by
  have e : (x + w64 * y) % w64 = x ∧ (x + w64 * y) / w64 = y := by simp only [w64] at *; omega
  unfold W2
  rw [e.1, e.2]
theorem lSub_sub {z : St} (wf : WF z) {a b c : Nat} (ha : a < w128) (hb : b < w128) (h : b ≤ a) (hc : c = a - b) : Cw Try.prog 67 [W2 a, W2 b] z fun r s' => K0 z s' ∧ r = .tuple #[W2 c, .bool true] := by
  subst hc; exact lSub_ok wf ha hb h
theorem lAdd_add {z : St} (wf : WF z) {a b c : Nat} (ha : a < w128) (hb : b < w128) (hc : c = a + b) (h : c < w128) : Cw Try.prog 54 [W2 a, W2 b] z fun r s' => K0 z s' ∧ r = .tuple #[W2 c, .bool true] := by
  subst hc; exact lAdd_ok wf ha hb h
theorem lSub_no {z : St} (wf : WF z) {a b : Nat} (ha : a < w128) (hb : b < w128) (h : a < b) : Cw Try.prog 67 [W2 a, W2 b] z fun r s' => K0 z s' ∧ r = .tuple #[W2 0, .bool false] :=
  (lSub_spec wf ha hb).mono fun r s' ⟨h1, h2⟩ => ⟨h1, h2.trans (if_neg (by omega))⟩
theorem one_lt : 1 < w128 := by decide
theorem dplus_spec {z : St} (wf : WF z) {a b : Nat} (ha : a < w256 / 4) (hb : b < w256 / 4) :
    Cw Try.prog 48 [W4 a, W4 b] z fun r s' => K0 z s' ∧ r = W4 (a + b) := by
  have hp : Hp (fun _ => False) z [] [] z := Hp.start _ wf _ (by simp)
  have a1 : a < w256 := by simp only [w256] at *; omega
  have b1 : b < w256 := by simp only [w256] at *; omega
  obtain ⟨q, hq⟩ : ∃ q, q = a / w128 := ⟨_, rfl⟩
  obtain ⟨p, hP⟩ : ∃ p, p = a % w128 := ⟨_, rfl⟩
  obtain ⟨t, ht⟩ : ∃ q, q = b / w128 := ⟨_, rfl⟩
  obtain ⟨r, hr⟩ : ∃ p, p = b % w128 := ⟨_, rfl⟩
  have aq : q < w128 / 4 := by simp only [w128, w256] at *; omega
  have bq : t < w128 / 4 := by simp only [w128, w256] at *; omega
  have ar : p < w128 := hP ▸ Nat.mod_lt _ (by decide)
  have br : r < w128 := hr ▸ Nat.mod_lt _ (by decide)
  have hab : a + b = q * w128 + p + (t * w128 + r) := by simp only [w128] at *; omega
  have hfin : ∀ h l : Nat, l < w128 → h * w128 + l = a + b → A4 (l % w64) (l / w64) (h % w64) (h / w64) = W4 (a + b) := fun h l hl e => by rw [← e, w4_parts hl]
  refine Cw.enterS Try.func48 rfl rfl ?_
  refine Sm.seqW ?_
  conv => whnf
  refine hp.var (cs := C4 (a % w64) (a / w64 % w64) (a / w128 % w64) (a / w192)) (e := 1) rfl rfl ?_
  clear hp
  intro p2 s hp _
  conv => whnf
  refine hp.var (cs := C4 (b % w64) (b / w64 % w64) (b / w128 % w64) (b / w192)) (e := 1) rfl rfl ?_
  clear hp
  intro p3 s hp _
  conv => whnf
  refine hp.alloc (cs := C4 0 0 0 0) (e := 1) rfl rfl rfl rfl rfl ?_
  clear hp
  intro p4 s hp _
  conv => whnf
  refine Sm.live [2, 3, 4] ?_
  conv => whnf
  refine Sm.seqW ?_
  conv => whnf
  refine hp.loadA (l := C4 (a % w64) (a / w64 % w64) (a / w128 % w64) (a / w192)) (by repeat (first | exact Has.here | apply Has.there | (apply Has.swap; repeat (first | exact HasR.here | apply HasR.there)))) rfl (by rfl) rfl rfl ?_
  conv => whnf
  refine hp.call (dhalves_spec hp.wf a1) ?_
  clear hp
  rintro _ s rfl hp _
  conv => whnf
  rw [← hq, ← hP]
  refine hp.alloc (cs := C2 0 0) (e := 1) rfl rfl rfl rfl rfl ?_
  clear hp
  intro p5 s hp _
  conv => whnf
  refine hp.alloc (cs := C2 0 0) (e := 1) rfl rfl rfl rfl rfl ?_
  clear hp
  intro p6 s hp _
  conv => whnf
  refine hp.storeW (vs := C2 (p % w64) (p / w64)) rfl (by repeat (first | exact Rm.here | apply Rm.there)) (by first | exact C2_same _ _ _ _ | exact C4_same _ _ _ _ _ _ _ _ | exact Dc_same _ _ | rfl) rfl rfl rfl ?_
  clear hp
  intro s hp _
  conv => whnf
  refine hp.storeW (vs := C2 (q % w64) (q / w64)) rfl (by repeat (first | exact Rm.here | apply Rm.there)) (by first | exact C2_same _ _ _ _ | exact C4_same _ _ _ _ _ _ _ _ | exact Dc_same _ _ | rfl) rfl rfl rfl ?_
  clear hp
  intro s hp _
  conv => whnf
  refine Sm.live [3, 4, 5, 6] ?_
  conv => whnf
  refine Sm.seqW ?_
  conv => whnf
  refine hp.loadA (l := C4 (b % w64) (b / w64 % w64) (b / w128 % w64) (b / w192)) (by repeat (first | exact Has.here | apply Has.there | (apply Has.swap; repeat (first | exact HasR.here | apply HasR.there)))) rfl (by rfl) rfl rfl ?_
  conv => whnf
  refine hp.call (dhalves_spec hp.wf b1) ?_
  clear hp
  rintro _ s rfl hp _
  conv => whnf
  rw [← ht, ← hr]
  refine hp.alloc (cs := C2 0 0) (e := 1) rfl rfl rfl rfl rfl ?_
  clear hp
  intro p7 s hp _
  conv => whnf
  refine hp.alloc (cs := C2 0 0) (e := 1) rfl rfl rfl rfl rfl ?_
  clear hp
  intro p8 s hp _
  conv => whnf
  refine hp.storeW (vs := C2 (r % w64) (r / w64)) rfl (by repeat (first | exact Rm.here | apply Rm.there)) (by first | exact C2_same _ _ _ _ | exact C4_same _ _ _ _ _ _ _ _ | exact Dc_same _ _ | rfl) rfl rfl rfl ?_
  clear hp
  intro s hp _
  conv => whnf
  refine hp.storeW (vs := C2 (t % w64) (t / w64)) rfl (by repeat (first | exact Rm.here | apply Rm.there)) (by first | exact C2_same _ _ _ _ | exact C4_same _ _ _ _ _ _ _ _ | exact Dc_same _ _ | rfl) rfl rfl rfl ?_
  clear hp
  intro s hp _
  conv => whnf
  refine Sm.live [4, 5, 6, 7, 8] ?_
  conv => whnf
  refine Sm.seqW ?_
  conv => whnf
  refine hp.loadA (l := C2 (q % w64) (q / w64)) (by repeat (first | exact Has.here | apply Has.there | (apply Has.swap; repeat (first | exact HasR.here | apply HasR.there)))) rfl (by rfl) rfl rfl ?_
  conv => whnf
  refine hp.loadA (l := C2 (t % w64) (t / w64)) (by repeat (first | exact Has.here | apply Has.there | (apply Has.swap; repeat (first | exact HasR.here | apply HasR.there)))) rfl (by rfl) rfl rfl ?_
  conv => whnf
  refine hp.call (lAdd_add hp.wf (a := q) (b := t) (c := q + t) (by simp only [w128] at *; omega) (by simp only [w128] at *; omega) rfl (by simp only [w128] at *; omega)) ?_
  clear hp
  rintro _ s rfl hp _
  conv => whnf
  refine hp.alloc (cs := C2 0 0) (e := 1) rfl rfl rfl rfl rfl ?_
  clear hp
  intro p9 s hp _
  conv => whnf
  refine hp.storeW (vs := C2 ((q + t) % w64) ((q + t) / w64)) rfl (by repeat (first | exact Rm.here | apply Rm.there)) (by first | exact C2_same _ _ _ _ | exact C4_same _ _ _ _ _ _ _ _ | exact Dc_same _ _ | rfl) rfl rfl rfl ?_
  clear hp
  intro s hp _
  conv => whnf
  refine Sm.live [4, 5, 7, 9] ?_
  conv => whnf
  refine Sm.seqW ?_
  conv => whnf
  refine hp.loadA (l := C2 (p % w64) (p / w64)) (by repeat (first | exact Has.here | apply Has.there | (apply Has.swap; repeat (first | exact HasR.here | apply HasR.there)))) rfl (by rfl) rfl rfl ?_
  conv => whnf
  refine hp.loadA (l := C2 (r % w64) (r / w64)) (by repeat (first | exact Has.here | apply Has.there | (apply Has.swap; repeat (first | exact HasR.here | apply HasR.there)))) rfl (by rfl) rfl rfl ?_
  conv => whnf
  by_cases hlt : p + r < w128
  · refine hp.call (lAdd_add hp.wf (a := p) (b := r) (c := p + r) ar br rfl hlt) ?_
    clear hp
    rintro _ s rfl hp _
    conv => whnf
    refine hp.alloc (cs := C2 0 0) (e := 1) rfl rfl rfl rfl rfl ?_
    clear hp
    intro pb s hp _
    conv => whnf
    refine hp.storeW (vs := C2 ((p + r) % w64) ((p + r) / w64)) rfl (by repeat (first | exact Rm.here | apply Rm.there)) (by first | exact C2_same _ _ _ _ | exact C4_same _ _ _ _ _ _ _ _ | exact Dc_same _ _ | rfl) rfl rfl rfl ?_
    clear hp
    intro s hp _
    conv => whnf
    refine Sm.live [4, 5, 7, 9, 11, 12] ?_
    conv => whnf
    refine Sm.seq ?_
    refine Sm.seqW ?_
    conv => whnf
    refine Sm.ofW ?_
    conv => whnf
    repeat (first | (refine Br.yes (by first | with_reducible rfl | with_reducible exact beq_self_eq_true _ | rfl) ?_; conv => whnf) | (refine Br.no (by first | with_reducible rfl | rfl) ?_; conv => whnf))
    refine Sm.seqW ?_
    conv => whnf
    refine Om.of _ (rfl) ?_
    conv => whnf
    refine hp.load (v := .int .u64 (((p + r) % w64 : Nat) : Int)) (by repeat (first | exact Has.here | apply Has.there | (apply Has.swap; repeat (first | exact HasR.here | apply HasR.there)))) (by rfl) rfl rfl rfl ?_
    conv => whnf
    refine Om.of _ (rfl) ?_
    conv => whnf
    refine hp.load (v := .int .u64 (((p + r) / w64 : Nat) : Int)) (by repeat (first | exact Has.here | apply Has.there | (apply Has.swap; repeat (first | exact HasR.here | apply HasR.there)))) (by rfl) rfl rfl rfl ?_
    conv => whnf
    refine Om.of _ (rfl) ?_
    conv => whnf
    refine hp.load (v := .int .u64 (((q + t) % w64 : Nat) : Int)) (by repeat (first | exact Has.here | apply Has.there | (apply Has.swap; repeat (first | exact HasR.here | apply HasR.there)))) (by rfl) rfl rfl rfl ?_
    conv => whnf
    refine Om.of _ (rfl) ?_
    conv => whnf
    refine hp.load (v := .int .u64 (((q + t) / w64 : Nat) : Int)) (by repeat (first | exact Has.here | apply Has.there | (apply Has.swap; repeat (first | exact HasR.here | apply HasR.there)))) (by rfl) rfl rfl rfl ?_
    conv => whnf
    refine hp.storeW (vs := C4 ((p + r) % w64) ((p + r) / w64) ((q + t) % w64) ((q + t) / w64)) rfl (by repeat (first | exact Rm.here | apply Rm.there)) (by first | exact C2_same _ _ _ _ | exact C4_same _ _ _ _ _ _ _ _ | exact Dc_same _ _ | rfl) rfl rfl rfl ?_
    clear hp
    intro s hp _
    conv => whnf
    refine Sm.ofW ?_
    conv => whnf
    refine hp.loadA (l := C4 ((p + r) % w64) ((p + r) / w64) ((q + t) % w64) ((q + t) / w64)) (by repeat (first | exact Has.here | apply Has.there | (apply Has.swap; repeat (first | exact HasR.here | apply HasR.there)))) rfl (by rfl) rfl rfl ?_
    conv => whnf
    exact ⟨hp.fr, hfin (q + t) (p + r) (by simp only [w128] at *; omega) (by simp only [w128] at *; omega)⟩
  · refine hp.call (lAdd_no hp.wf (a := p) (b := r) ar br hlt) ?_
    clear hp
    rintro _ s rfl hp _
    conv => whnf
    refine hp.alloc (cs := C2 0 0) (e := 1) rfl rfl rfl rfl rfl ?_
    clear hp
    intro pb s hp _
    conv => whnf
    refine hp.storeW (vs := C2 (0 % w64) (0 / w64)) rfl (by repeat (first | exact Rm.here | apply Rm.there)) (by first | exact C2_same _ _ _ _ | exact C4_same _ _ _ _ _ _ _ _ | exact Dc_same _ _ | rfl) rfl rfl rfl ?_
    clear hp
    intro s hp _
    conv => whnf
    refine Sm.live [4, 5, 7, 9, 11, 12] ?_
    conv => whnf
    refine Sm.seq ?_
    refine Sm.seqW ?_
    conv => whnf
    refine Sm.ofW ?_
    conv => whnf
    repeat (first | (refine Br.yes (by first | with_reducible rfl | with_reducible exact beq_self_eq_true _ | rfl) ?_; conv => whnf) | (refine Br.no (by first | with_reducible rfl | rfl) ?_; conv => whnf))
    refine hp.loadA (l := C2 (r % w64) (r / w64)) (by repeat (first | exact Has.here | apply Has.there | (apply Has.swap; repeat (first | exact HasR.here | apply HasR.there)))) rfl (by rfl) rfl rfl ?_
    conv => whnf
    refine Om.of _ (rfl) ?_
    conv => whnf
    refine hp.load (v := .int .u64 ((p % w64 : Nat) : Int)) (by repeat (first | exact Has.here | apply Has.there | (apply Has.swap; repeat (first | exact HasR.here | apply HasR.there)))) (by rfl) rfl rfl rfl ?_
    conv => whnf
    refine Om.of _ (rfl) ?_
    conv => whnf
    refine hp.load (v := .int .u64 ((p / w64 : Nat) : Int)) (by repeat (first | exact Has.here | apply Has.there | (apply Has.swap; repeat (first | exact HasR.here | apply HasR.there)))) (by rfl) rfl rfl rfl ?_
    conv => whnf
    have c1 := compl_u64 (w2_lt ar).1
    have c2 := compl_u64 (w2_lt ar).2
    have hw : A2 (w64 - 1 - p % w64) (w64 - 1 - p / w64) = W2 (w128 - 1 - p) := by
      rw [words_of2 (by simp only [w64]; omega) (by simp only [w64]; omega)]
      congr 1
      have := w2_lt ar
      simp only [w64, w128] at *; omega
    have hcall := lSub_sub hp.wf (a := r) (b := w128 - 1 - p) (c := p + r - w128 + 1) br (by simp only [w128] at *; omega) (by simp only [w128] at *; omega) (by simp only [w128] at *; omega)
    rw [← hw] at hcall
    rw [c1, c2]
    refine hp.call (hcall) ?_
    clear hp
    rintro _ s rfl hp _
    conv => whnf
    refine hp.storeW (vs := C2 ((p + r - w128 + 1) % w64) ((p + r - w128 + 1) / w64)) rfl (by repeat (first | exact Rm.here | apply Rm.there)) (by first | exact C2_same _ _ _ _ | exact C4_same _ _ _ _ _ _ _ _ | exact Dc_same _ _ | rfl) rfl rfl rfl ?_
    clear hp
    intro s hp _
    conv => whnf
    refine ⟨[0, 0, 3, 7, 15, 15, 31], by decide +kernel, by decide +kernel, ?_⟩
    conv => whnf
    refine hp.loadA (l := C2 ((p + r - w128 + 1) % w64) ((p + r - w128 + 1) / w64)) (by repeat (first | exact Has.here | apply Has.there | (apply Has.swap; repeat (first | exact HasR.here | apply HasR.there)))) rfl (by rfl) rfl rfl ?_
    conv => whnf
    refine hp.rst.call (lOf_spec hp.rst.wf (a := 1) (by decide)) ?_
    rintro _ s1 rfl h1 k1
    conv => whnf
    refine hp.dkN h1 k1 ?_
    clear hp h1 k1
    intro s hp
    conv => whnf
    refine hp.rst.call (lSub_sub hp.rst.wf (a := p + r - w128 + 1) (b := 1) (c := p + r - w128) (by simp only [w128] at *; omega) one_lt (by omega) (by omega)) ?_
    rintro _ s1 rfl h1 k1
    conv => whnf
    refine hp.dkN h1 k1 ?_
    clear hp h1 k1
    intro s hp
    conv => whnf
    refine hp.rst.storeW (vs := C2 ((p + r - w128) % w64) ((p + r - w128) / w64)) rfl (by repeat (first | exact Rm.here | apply Rm.there)) (by first | exact C2_same _ _ _ _ | exact C4_same _ _ _ _ _ _ _ _ | exact Dc_same _ _ | rfl) rfl rfl rfl ?_
    intro s1 h1 l1
    conv => whnf
    refine hp.dkW h1 l1 ?_
    clear hp h1 l1
    intro s hp
    conv => whnf
    refine ⟨[0, 0, 3, 7, 15, 15, 31], by decide +kernel, by decide +kernel, ?_⟩
    conv => whnf
    refine hp.loadA (l := C2 ((q + t) % w64) ((q + t) / w64)) (by repeat (first | exact Has.here | apply Has.there | (apply Has.swap; repeat (first | exact HasR.here | apply HasR.there)))) rfl (by rfl) rfl rfl ?_
    conv => whnf
    refine hp.rst.call (lOf_spec hp.rst.wf (a := 1) (by decide)) ?_
    rintro _ s1 rfl h1 k1
    conv => whnf
    refine hp.dkN h1 k1 ?_
    clear hp h1 k1
    intro s hp
    conv => whnf
    refine hp.rst.call (lAdd_add hp.rst.wf (a := q + t) (b := 1) (c := q + t + 1) (by simp only [w128] at *; omega) one_lt rfl (by simp only [w128] at *; omega)) ?_
    rintro _ s1 rfl h1 k1
    conv => whnf
    refine hp.dkN h1 k1 ?_
    clear hp h1 k1
    intro s hp
    conv => whnf
    refine hp.rst.storeW (vs := C2 ((q + t + 1) % w64) ((q + t + 1) / w64)) rfl (by repeat (first | exact Rm.here | apply Rm.there)) (by first | exact C2_same _ _ _ _ | exact C4_same _ _ _ _ _ _ _ _ | exact Dc_same _ _ | rfl) rfl rfl rfl ?_
    intro s1 h1 l1
    conv => whnf
    refine hp.dkW h1 l1 ?_
    clear hp h1 l1
    intro s hp
    conv => whnf
    refine Sm.seqW ?_
    conv => whnf
    refine Om.of _ (rfl) ?_
    conv => whnf
    refine hp.load (v := .int .u64 (((p + r - w128) % w64 : Nat) : Int)) (by repeat (first | exact Has.here | apply Has.there | (apply Has.swap; repeat (first | exact HasR.here | apply HasR.there)))) (by rfl) rfl rfl rfl ?_
    conv => whnf
    refine Om.of _ (rfl) ?_
    conv => whnf
    refine hp.load (v := .int .u64 (((p + r - w128) / w64 : Nat) : Int)) (by repeat (first | exact Has.here | apply Has.there | (apply Has.swap; repeat (first | exact HasR.here | apply HasR.there)))) (by rfl) rfl rfl rfl ?_
    conv => whnf
    refine Om.of _ (rfl) ?_
    conv => whnf
    refine hp.load (v := .int .u64 (((q + t + 1) % w64 : Nat) : Int)) (by repeat (first | exact Has.here | apply Has.there | (apply Has.swap; repeat (first | exact HasR.here | apply HasR.there)))) (by rfl) rfl rfl rfl ?_
    conv => whnf
    refine Om.of _ (rfl) ?_
    conv => whnf
    refine hp.load (v := .int .u64 (((q + t + 1) / w64 : Nat) : Int)) (by repeat (first | exact Has.here | apply Has.there | (apply Has.swap; repeat (first | exact HasR.here | apply HasR.there)))) (by rfl) rfl rfl rfl ?_
    conv => whnf
    refine hp.storeW (vs := C4 ((p + r - w128) % w64) ((p + r - w128) / w64) ((q + t + 1) % w64) ((q + t + 1) / w64)) rfl (by repeat (first | exact Rm.here | apply Rm.there)) (by first | exact C2_same _ _ _ _ | exact C4_same _ _ _ _ _ _ _ _ | exact Dc_same _ _ | rfl) rfl rfl rfl ?_
    clear hp
    intro s hp _
    conv => whnf
    refine Sm.ofW ?_
    conv => whnf
    refine hp.loadA (l := C4 ((p + r - w128) % w64) ((p + r - w128) / w64) ((q + t + 1) % w64) ((q + t + 1) / w64)) (by repeat (first | exact Has.here | apply Has.there | (apply Has.swap; repeat (first | exact HasR.here | apply HasR.there)))) rfl (by rfl) rfl rfl ?_
    conv => whnf
    exact ⟨hp.fr, hfin (q + t + 1) (p + r - w128) (by simp only [w128] at *; omega) (by simp only [w128] at *; omega)⟩
theorem dless_spec {z : St} (wf : WF z) {a b : Nat} (ha : a < w256) (hb : b ≤ a) :
    Cw Try.prog 50 [W4 a, W4 b] z fun r s' => K0 z s' ∧ r = W4 (a - b) := by
  have hp : Hp (fun _ => False) z [] [] z := Hp.start _ wf _ (by simp)
  have b1 : b < w256 := by omega
  obtain ⟨q, hq⟩ : ∃ q, q = a / w128 := ⟨_, rfl⟩
  obtain ⟨p, hP⟩ : ∃ p, p = a % w128 := ⟨_, rfl⟩
  obtain ⟨t, ht⟩ : ∃ q, q = b / w128 := ⟨_, rfl⟩
  obtain ⟨r, hr⟩ : ∃ p, p = b % w128 := ⟨_, rfl⟩
  have aq : q < w128 := by simp only [w128, w256] at *; omega
  have bq : t ≤ q := by simp only [w128, w256] at *; omega
  have ar : p < w128 := hP ▸ Nat.mod_lt _ (by decide)
  have br : r < w128 := hr ▸ Nat.mod_lt _ (by decide)
  have hab : a = q * w128 + p ∧ b = t * w128 + r := by simp only [w128] at *; omega
  have hfin : ∀ h l : Nat, l < w128 → h * w128 + l = a - b → A4 (l % w64) (l / w64) (h % w64) (h / w64) = W4 (a - b) := fun h l hl e => by rw [← e, w4_parts hl]
  refine Cw.enterS Try.func50 rfl rfl ?_
  refine Sm.seqW ?_
  conv => whnf
  refine hp.var (cs := C4 (a % w64) (a / w64 % w64) (a / w128 % w64) (a / w192)) (e := 1) rfl rfl ?_
  clear hp
  intro p2 s hp _
  conv => whnf
  refine hp.var (cs := C4 (b % w64) (b / w64 % w64) (b / w128 % w64) (b / w192)) (e := 1) rfl rfl ?_
  clear hp
  intro p3 s hp _
  conv => whnf
  refine hp.alloc (cs := C4 0 0 0 0) (e := 1) rfl rfl rfl rfl rfl ?_
  clear hp
  intro p4 s hp _
  conv => whnf
  refine Sm.live [2, 3, 4] ?_
  conv => whnf
  refine Sm.seqW ?_
  conv => whnf
  refine hp.loadA (l := C4 (a % w64) (a / w64 % w64) (a / w128 % w64) (a / w192)) (by repeat (first | exact Has.here | apply Has.there | (apply Has.swap; repeat (first | exact HasR.here | apply HasR.there)))) rfl (by rfl) rfl rfl ?_
  conv => whnf
  refine hp.call (dhalves_spec hp.wf ha) ?_
  clear hp
  rintro _ s rfl hp _
  conv => whnf
  rw [← hq, ← hP]
  refine hp.alloc (cs := C2 0 0) (e := 1) rfl rfl rfl rfl rfl ?_
  clear hp
  intro p5 s hp _
  conv => whnf
  refine hp.alloc (cs := C2 0 0) (e := 1) rfl rfl rfl rfl rfl ?_
  clear hp
  intro p6 s hp _
  conv => whnf
  refine hp.storeW (vs := C2 (p % w64) (p / w64)) rfl (by repeat (first | exact Rm.here | apply Rm.there)) (by first | exact C2_same _ _ _ _ | exact C4_same _ _ _ _ _ _ _ _ | exact Dc_same _ _ | rfl) rfl rfl rfl ?_
  clear hp
  intro s hp _
  conv => whnf
  refine hp.storeW (vs := C2 (q % w64) (q / w64)) rfl (by repeat (first | exact Rm.here | apply Rm.there)) (by first | exact C2_same _ _ _ _ | exact C4_same _ _ _ _ _ _ _ _ | exact Dc_same _ _ | rfl) rfl rfl rfl ?_
  clear hp
  intro s hp _
  conv => whnf
  refine Sm.live [3, 4, 5, 6] ?_
  conv => whnf
  refine Sm.seqW ?_
  conv => whnf
  refine hp.loadA (l := C4 (b % w64) (b / w64 % w64) (b / w128 % w64) (b / w192)) (by repeat (first | exact Has.here | apply Has.there | (apply Has.swap; repeat (first | exact HasR.here | apply HasR.there)))) rfl (by rfl) rfl rfl ?_
  conv => whnf
  refine hp.call (dhalves_spec hp.wf b1) ?_
  clear hp
  rintro _ s rfl hp _
  conv => whnf
  rw [← ht, ← hr]
  refine hp.alloc (cs := C2 0 0) (e := 1) rfl rfl rfl rfl rfl ?_
  clear hp
  intro p7 s hp _
  conv => whnf
  refine hp.alloc (cs := C2 0 0) (e := 1) rfl rfl rfl rfl rfl ?_
  clear hp
  intro p8 s hp _
  conv => whnf
  refine hp.storeW (vs := C2 (r % w64) (r / w64)) rfl (by repeat (first | exact Rm.here | apply Rm.there)) (by first | exact C2_same _ _ _ _ | exact C4_same _ _ _ _ _ _ _ _ | exact Dc_same _ _ | rfl) rfl rfl rfl ?_
  clear hp
  intro s hp _
  conv => whnf
  refine hp.storeW (vs := C2 (t % w64) (t / w64)) rfl (by repeat (first | exact Rm.here | apply Rm.there)) (by first | exact C2_same _ _ _ _ | exact C4_same _ _ _ _ _ _ _ _ | exact Dc_same _ _ | rfl) rfl rfl rfl ?_
  clear hp
  intro s hp _
  conv => whnf
  refine Sm.live [4, 5, 6, 7, 8] ?_
  conv => whnf
  refine Sm.seqW ?_
  conv => whnf
  refine hp.loadA (l := C2 (q % w64) (q / w64)) (by repeat (first | exact Has.here | apply Has.there | (apply Has.swap; repeat (first | exact HasR.here | apply HasR.there)))) rfl (by rfl) rfl rfl ?_
  conv => whnf
  refine hp.loadA (l := C2 (t % w64) (t / w64)) (by repeat (first | exact Has.here | apply Has.there | (apply Has.swap; repeat (first | exact HasR.here | apply HasR.there)))) rfl (by rfl) rfl rfl ?_
  conv => whnf
  refine hp.call (lSub_sub hp.wf (a := q) (b := t) (c := q - t) aq (by omega) bq rfl) ?_
  clear hp
  rintro _ s rfl hp _
  conv => whnf
  refine hp.alloc (cs := C2 0 0) (e := 1) rfl rfl rfl rfl rfl ?_
  clear hp
  intro p9 s hp _
  conv => whnf
  refine hp.storeW (vs := C2 ((q - t) % w64) ((q - t) / w64)) rfl (by repeat (first | exact Rm.here | apply Rm.there)) (by first | exact C2_same _ _ _ _ | exact C4_same _ _ _ _ _ _ _ _ | exact Dc_same _ _ | rfl) rfl rfl rfl ?_
  clear hp
  intro s hp _
  conv => whnf
  refine Sm.live [4, 5, 7, 9] ?_
  conv => whnf
  refine Sm.seqW ?_
  conv => whnf
  refine hp.loadA (l := C2 (p % w64) (p / w64)) (by repeat (first | exact Has.here | apply Has.there | (apply Has.swap; repeat (first | exact HasR.here | apply HasR.there)))) rfl (by rfl) rfl rfl ?_
  conv => whnf
  refine hp.loadA (l := C2 (r % w64) (r / w64)) (by repeat (first | exact Has.here | apply Has.there | (apply Has.swap; repeat (first | exact HasR.here | apply HasR.there)))) rfl (by rfl) rfl rfl ?_
  conv => whnf
  by_cases hlt : r ≤ p
  · refine hp.call (lSub_sub hp.wf (a := p) (b := r) (c := p - r) ar br hlt rfl) ?_
    clear hp
    rintro _ s rfl hp _
    conv => whnf
    refine hp.alloc (cs := C2 0 0) (e := 1) rfl rfl rfl rfl rfl ?_
    clear hp
    intro pb s hp _
    conv => whnf
    refine hp.storeW (vs := C2 ((p - r) % w64) ((p - r) / w64)) rfl (by repeat (first | exact Rm.here | apply Rm.there)) (by first | exact C2_same _ _ _ _ | exact C4_same _ _ _ _ _ _ _ _ | exact Dc_same _ _ | rfl) rfl rfl rfl ?_
    clear hp
    intro s hp _
    conv => whnf
    refine Sm.live [4, 5, 7, 9, 11, 12] ?_
    conv => whnf
    refine Sm.seq ?_
    refine Sm.seqW ?_
    conv => whnf
    refine Sm.ofW ?_
    conv => whnf
    repeat (first | (refine Br.yes (by first | with_reducible rfl | with_reducible exact beq_self_eq_true _ | rfl) ?_; conv => whnf) | (refine Br.no (by first | with_reducible rfl | rfl) ?_; conv => whnf))
    refine Sm.seqW ?_
    conv => whnf
    refine Om.of _ (rfl) ?_
    conv => whnf
    refine hp.load (v := .int .u64 (((p - r) % w64 : Nat) : Int)) (by repeat (first | exact Has.here | apply Has.there | (apply Has.swap; repeat (first | exact HasR.here | apply HasR.there)))) (by rfl) rfl rfl rfl ?_
    conv => whnf
    refine Om.of _ (rfl) ?_
    conv => whnf
    refine hp.load (v := .int .u64 (((p - r) / w64 : Nat) : Int)) (by repeat (first | exact Has.here | apply Has.there | (apply Has.swap; repeat (first | exact HasR.here | apply HasR.there)))) (by rfl) rfl rfl rfl ?_
    conv => whnf
    refine Om.of _ (rfl) ?_
    conv => whnf
    refine hp.load (v := .int .u64 (((q - t) % w64 : Nat) : Int)) (by repeat (first | exact Has.here | apply Has.there | (apply Has.swap; repeat (first | exact HasR.here | apply HasR.there)))) (by rfl) rfl rfl rfl ?_
    conv => whnf
    refine Om.of _ (rfl) ?_
    conv => whnf
    refine hp.load (v := .int .u64 (((q - t) / w64 : Nat) : Int)) (by repeat (first | exact Has.here | apply Has.there | (apply Has.swap; repeat (first | exact HasR.here | apply HasR.there)))) (by rfl) rfl rfl rfl ?_
    conv => whnf
    refine hp.storeW (vs := C4 ((p - r) % w64) ((p - r) / w64) ((q - t) % w64) ((q - t) / w64)) rfl (by repeat (first | exact Rm.here | apply Rm.there)) (by first | exact C2_same _ _ _ _ | exact C4_same _ _ _ _ _ _ _ _ | exact Dc_same _ _ | rfl) rfl rfl rfl ?_
    clear hp
    intro s hp _
    conv => whnf
    refine Sm.ofW ?_
    conv => whnf
    refine hp.loadA (l := C4 ((p - r) % w64) ((p - r) / w64) ((q - t) % w64) ((q - t) / w64)) (by repeat (first | exact Has.here | apply Has.there | (apply Has.swap; repeat (first | exact HasR.here | apply HasR.there)))) rfl (by rfl) rfl rfl ?_
    conv => whnf
    exact ⟨hp.fr, hfin (q - t) (p - r) (by simp only [w128] at *; omega) (by simp only [w128] at *; omega)⟩
  · have htq : t < q := by simp only [w128] at *; omega
    refine hp.call (lSub_no hp.wf (a := p) (b := r) ar br (by omega)) ?_
    clear hp
    rintro _ s rfl hp _
    conv => whnf
    refine hp.alloc (cs := C2 0 0) (e := 1) rfl rfl rfl rfl rfl ?_
    clear hp
    intro pb s hp _
    conv => whnf
    refine hp.storeW (vs := C2 (0 % w64) (0 / w64)) rfl (by repeat (first | exact Rm.here | apply Rm.there)) (by first | exact C2_same _ _ _ _ | exact C4_same _ _ _ _ _ _ _ _ | exact Dc_same _ _ | rfl) rfl rfl rfl ?_
    clear hp
    intro s hp _
    conv => whnf
    refine Sm.live [4, 5, 7, 9, 11, 12] ?_
    conv => whnf
    refine Sm.seq ?_
    refine Sm.seqW ?_
    conv => whnf
    refine Sm.ofW ?_
    conv => whnf
    repeat (first | (refine Br.yes (by first | with_reducible rfl | with_reducible exact beq_self_eq_true _ | rfl) ?_; conv => whnf) | (refine Br.no (by first | with_reducible rfl | rfl) ?_; conv => whnf))
    refine hp.loadA (l := C2 (r % w64) (r / w64)) (by repeat (first | exact Has.here | apply Has.there | (apply Has.swap; repeat (first | exact HasR.here | apply HasR.there)))) rfl (by rfl) rfl rfl ?_
    conv => whnf
    refine hp.loadA (l := C2 (p % w64) (p / w64)) (by repeat (first | exact Has.here | apply Has.there | (apply Has.swap; repeat (first | exact HasR.here | apply HasR.there)))) rfl (by rfl) rfl rfl ?_
    conv => whnf
    refine hp.call (lSub_sub hp.wf (a := r) (b := p) (c := r - p) br ar (by omega) rfl) ?_
    clear hp
    rintro _ s rfl hp _
    conv => whnf
    refine hp.alloc (cs := C2 0 0) (e := 1) rfl rfl rfl rfl rfl ?_
    clear hp
    intro pd s hp _
    conv => whnf
    refine hp.storeW (vs := C2 ((r - p) % w64) ((r - p) / w64)) rfl (by repeat (first | exact Rm.here | apply Rm.there)) (by first | exact C2_same _ _ _ _ | exact C4_same _ _ _ _ _ _ _ _ | exact Dc_same _ _ | rfl) rfl rfl rfl ?_
    clear hp
    intro s hp _
    conv => whnf
    refine ⟨[0, 0, 3, 7, 15, 15, 31], by decide +kernel, by decide +kernel, ?_⟩
    conv => whnf
    refine hp.loadA (l := C2 ((r - p) % w64) ((r - p) / w64)) (by repeat (first | exact Has.here | apply Has.there | (apply Has.swap; repeat (first | exact HasR.here | apply HasR.there)))) rfl (by rfl) rfl rfl ?_
    conv => whnf
    refine hp.rst.call (lOf_spec hp.rst.wf (a := 1) (by decide)) ?_
    rintro _ s1 rfl h1 k1
    conv => whnf
    refine hp.dkN h1 k1 ?_
    clear hp h1 k1
    intro s hp
    conv => whnf
    obtain ⟨y, hy⟩ : ∃ y, y = r - p - 1 := ⟨_, rfl⟩
    have hyl : y < w128 := by omega
    refine hp.rst.call (lSub_sub hp.rst.wf (a := r - p) (b := 1) (c := y) (by omega) one_lt (by omega) hy) ?_
    rintro _ s1 rfl h1 k1
    conv => whnf
    refine hp.dkN h1 k1 ?_
    clear hp h1 k1
    intro s hp
    conv => whnf
    refine hp.rst.storeW (vs := C2 ((y) % w64) ((y) / w64)) rfl (by repeat (first | exact Rm.here | apply Rm.there)) (by first | exact C2_same _ _ _ _ | exact C4_same _ _ _ _ _ _ _ _ | exact Dc_same _ _ | rfl) rfl rfl rfl ?_
    intro s1 h1 l1
    conv => whnf
    refine hp.dkW h1 l1 ?_
    clear hp h1 l1
    intro s hp
    conv => whnf
    refine Om.of _ (rfl) ?_
    conv => whnf
    refine hp.load (v := .int .u64 ((y % w64 : Nat) : Int)) (by repeat (first | exact Has.here | apply Has.there | (apply Has.swap; repeat (first | exact HasR.here | apply HasR.there)))) (by rfl) rfl rfl rfl ?_
    conv => whnf
    refine Om.of _ (rfl) ?_
    conv => whnf
    refine hp.load (v := .int .u64 ((y / w64 : Nat) : Int)) (by repeat (first | exact Has.here | apply Has.there | (apply Has.swap; repeat (first | exact HasR.here | apply HasR.there)))) (by rfl) rfl rfl rfl ?_
    conv => whnf
    have c1 := compl_u64 (w2_lt hyl).1
    have c2 := compl_u64 (w2_lt hyl).2
    have hyd := Nat.div_add_mod y w64
    have hw : (w64 - 1 - y % w64) = (p + w128 - r) % w64 ∧ w64 - 1 - y / w64 = (p + w128 - r) / w64 := by
      have := w2_lt hyl
      simp only [w64, w128] at *; omega
    rw [c1, c2, hw.1, hw.2]
    refine hp.storeW (vs := C2 ((p + w128 - r) % w64) ((p + w128 - r) / w64)) rfl (by repeat (first | exact Rm.here | apply Rm.there)) (by first | exact C2_same _ _ _ _ | exact C4_same _ _ _ _ _ _ _ _ | exact Dc_same _ _ | rfl) rfl rfl rfl ?_
    clear hp
    intro s hp _
    conv => whnf
    refine ⟨[0, 0, 3, 7, 15, 15, 31], by decide +kernel, by decide +kernel, ?_⟩
    conv => whnf
    refine hp.loadA (l := C2 ((q - t) % w64) ((q - t) / w64)) (by repeat (first | exact Has.here | apply Has.there | (apply Has.swap; repeat (first | exact HasR.here | apply HasR.there)))) rfl (by rfl) rfl rfl ?_
    conv => whnf
    refine hp.rst.call (lOf_spec hp.rst.wf (a := 1) (by decide)) ?_
    rintro _ s1 rfl h1 k1
    conv => whnf
    refine hp.dkN h1 k1 ?_
    clear hp h1 k1
    intro s hp
    conv => whnf
    refine hp.rst.call (lSub_sub hp.rst.wf (a := q - t) (b := 1) (c := q - t - 1) (by omega) one_lt (by omega) rfl) ?_
    rintro _ s1 rfl h1 k1
    conv => whnf
    refine hp.dkN h1 k1 ?_
    clear hp h1 k1
    intro s hp
    conv => whnf
    refine hp.rst.storeW (vs := C2 ((q - t - 1) % w64) ((q - t - 1) / w64)) rfl (by repeat (first | exact Rm.here | apply Rm.there)) (by first | exact C2_same _ _ _ _ | exact C4_same _ _ _ _ _ _ _ _ | exact Dc_same _ _ | rfl) rfl rfl rfl ?_
    intro s1 h1 l1
    conv => whnf
    refine hp.dkW h1 l1 ?_
    clear hp h1 l1
    intro s hp
    conv => whnf
    refine Sm.seqW ?_
    conv => whnf
    refine Om.of _ (rfl) ?_
    conv => whnf
    refine hp.load (v := .int .u64 (((p + w128 - r) % w64 : Nat) : Int)) (by repeat (first | exact Has.here | apply Has.there | (apply Has.swap; repeat (first | exact HasR.here | apply HasR.there)))) (by rfl) rfl rfl rfl ?_
    conv => whnf
    refine Om.of _ (rfl) ?_
    conv => whnf
    refine hp.load (v := .int .u64 (((p + w128 - r) / w64 : Nat) : Int)) (by repeat (first | exact Has.here | apply Has.there | (apply Has.swap; repeat (first | exact HasR.here | apply HasR.there)))) (by rfl) rfl rfl rfl ?_
    conv => whnf
    refine Om.of _ (rfl) ?_
    conv => whnf
    refine hp.load (v := .int .u64 (((q - t - 1) % w64 : Nat) : Int)) (by repeat (first | exact Has.here | apply Has.there | (apply Has.swap; repeat (first | exact HasR.here | apply HasR.there)))) (by rfl) rfl rfl rfl ?_
    conv => whnf
    refine Om.of _ (rfl) ?_
    conv => whnf
    refine hp.load (v := .int .u64 (((q - t - 1) / w64 : Nat) : Int)) (by repeat (first | exact Has.here | apply Has.there | (apply Has.swap; repeat (first | exact HasR.here | apply HasR.there)))) (by rfl) rfl rfl rfl ?_
    conv => whnf
    refine hp.storeW (vs := C4 ((p + w128 - r) % w64) ((p + w128 - r) / w64) ((q - t - 1) % w64) ((q - t - 1) / w64)) rfl (by repeat (first | exact Rm.here | apply Rm.there)) (by first | exact C2_same _ _ _ _ | exact C4_same _ _ _ _ _ _ _ _ | exact Dc_same _ _ | rfl) rfl rfl rfl ?_
    clear hp
    intro s hp _
    conv => whnf
    refine Sm.ofW ?_
    conv => whnf
    refine hp.loadA (l := C4 ((p + w128 - r) % w64) ((p + w128 - r) / w64) ((q - t - 1) % w64) ((q - t - 1) / w64)) (by repeat (first | exact Has.here | apply Has.there | (apply Has.swap; repeat (first | exact HasR.here | apply HasR.there)))) rfl (by rfl) rfl rfl ?_
    conv => whnf
    exact ⟨hp.fr, hfin (q - t - 1) (p + w128 - r) (by simp only [w128] at *; omega) (by simp only [w128] at *; omega)⟩
end Go.Ev
end

/- Sums, products and the order of decimals, without a program. No condition. -/
noncomputable section
namespace Go.Ev
open Go.Proofs
set_option linter.unusedVariables false

/-- A decimal's digits with its sign, at a scale. -/
def up (d : Dc) (S : Int) : Int := if d.neg = true then -((d.c * 10 ^ (S - d.scale).toNat : Nat) : Int) else ((d.c * 10 ^ (S - d.scale).toNat : Nat) : Int)
def mkI (x : Int) (S : Int) : Value := dmade (decide (x < 0)) x.natAbs S
def addF (a b : Dc) : Value := if a.right = false ∨ b.right = false then errD 1 else mkI (up a (max a.scale b.scale) + up b (max a.scale b.scale)) (max a.scale b.scale)
def subF (a b : Dc) : Value := if b.right = false then errD 1 else addF a (negF b)
def mulF (a b : Dc) : Value := if a.right = false ∨ b.right = false then errD 1 else if 9 < a.scale + b.scale then errD 3 else dmade (a.neg != b.neg) (a.c * b.c) (a.scale + b.scale)
def cmpZ (x y : Int) : Int := if x < y then -1 else if x = y then 0 else 1
def cmpF (a b : Dc) : Int := if a.right = false ∨ b.right = false then 0 else cmpZ (up a (max a.scale b.scale)) (up b (max a.scale b.scale))
theorem dmade_mk (neg : Bool) (n : Nat) (S : Int) : dmade neg n S = mkI (if neg = true then -(n : Int) else n) S := by
  unfold mkI
  cases neg with
  | false =>
    rw [if_neg (by decide), decide_eq_false (by omega)]; rfl
  | true =>
    rw [if_pos rfl]
    have e : (-(n : Int)).natAbs = n := by omega
    rw [e]
    unfold dmade
    by_cases h : n = 0
    · subst h; rfl
    · rw [decide_eq_true (show -(n : Int) < 0 by omega)]
theorem add_same {a b : Dc} {S : Int} (h : a.neg = b.neg) : dmade a.neg (a.c * 10 ^ (S - a.scale).toNat + b.c * 10 ^ (S - b.scale).toNat) S = mkI (up a S + up b S) S := by
  rw [dmade_mk]
  unfold up
  rw [← h]
  congr 1
  generalize a.c * 10 ^ (S - a.scale).toNat = x
  generalize b.c * 10 ^ (S - b.scale).toNat = y
  cases a.neg <;> simp <;> omega
theorem add_left {a b : Dc} {S : Int} (h : ¬ a.neg = b.neg) (hle : b.c * 10 ^ (S - b.scale).toNat ≤ a.c * 10 ^ (S - a.scale).toNat) : dmade a.neg (a.c * 10 ^ (S - a.scale).toNat - b.c * 10 ^ (S - b.scale).toNat) S = mkI (up a S + up b S) S := by
  rw [dmade_mk]
  unfold up
  congr 1
  generalize a.c * 10 ^ (S - a.scale).toNat = x at *
  generalize b.c * 10 ^ (S - b.scale).toNat = y at *
  cases ha : a.neg <;> cases hb : b.neg <;> rw [ha, hb] at h <;> first | exact absurd rfl h | (simp; omega)
theorem add_right {a b : Dc} {S : Int} (h : ¬ a.neg = b.neg) (hle : a.c * 10 ^ (S - a.scale).toNat ≤ b.c * 10 ^ (S - b.scale).toNat) : dmade b.neg (b.c * 10 ^ (S - b.scale).toNat - a.c * 10 ^ (S - a.scale).toNat) S = mkI (up a S + up b S) S := by
  rw [Int.add_comm]
  exact add_left (fun e => h e.symm) hle
theorem sign_right {d : Dc} (h : d.right = true) : signF d = if d.c = 0 then 0 else if d.neg = true then -1 else 1 := by
  unfold signF
  rw [h]
  simp
theorem up_sign {d : Dc} (S : Int) (h : d.right = true) : (signF d = 0 ↔ up d S = 0) ∧ (signF d = -1 ↔ up d S < 0) ∧ (signF d = 1 ↔ 0 < up d S) ∧ (signF d = 0 ∨ signF d = -1 ∨ signF d = 1) := by
  rw [sign_right h]
  unfold up
  have hp := p10 (S - d.scale).toNat
  by_cases h0 : d.c = 0
  · rw [h0, Nat.zero_mul]; cases d.neg <;> simp
  · have : 0 < d.c * 10 ^ (S - d.scale).toNat := Nat.mul_pos (Nat.pos_of_ne_zero h0) hp
    generalize d.c * 10 ^ (S - d.scale).toNat = x at *
    rw [if_neg h0]
    cases d.neg <;> simp <;> omega
theorem cmp_sign {a b : Dc} (ha : a.right = true) (hb : b.right = true) (h : signF a ≠ signF b) : cmpF a b = if signF a < signF b then -1 else 1 := by
  unfold cmpF cmpZ
  rw [if_neg (by simp [ha, hb])]
  obtain ⟨a1, a2, a3, a4⟩ := up_sign (max a.scale b.scale) ha
  obtain ⟨b1, b2, b3, b4⟩ := up_sign (max a.scale b.scale) hb
  generalize signF a = p at *
  generalize signF b = q at *
  generalize up a (max a.scale b.scale) = x at *
  generalize up b (max a.scale b.scale) = y at *
  by_cases hpq : p < q
  · rw [if_pos hpq, if_pos (by omega)]
  · rw [if_neg hpq, if_neg (by omega), if_neg (by omega)]
theorem cmp_same {a b : Dc} (ha : a.right = true) (hb : b.right = true) (h : signF a = signF b) :
    cmpF a b = cmpI (a.c * 10 ^ (max a.scale b.scale - a.scale).toNat) (b.c * 10 ^ (max a.scale b.scale - b.scale).toNat) * signF a := by
  have hf : cmpF a b = cmpZ (up a (max a.scale b.scale)) (up b (max a.scale b.scale)) := by unfold cmpF; rw [if_neg (by simp [ha, hb])]
  rw [hf]
  obtain ⟨a1, a2, a3, a4⟩ := up_sign (max a.scale b.scale) ha
  obtain ⟨b1, b2, b3, b4⟩ := up_sign (max a.scale b.scale) hb
  rw [← h] at b1 b2 b3 b4
  generalize max a.scale b.scale = S at *
  have ea : up a S = if a.neg = true then -((a.c * 10 ^ (S - a.scale).toNat : Nat) : Int) else ((a.c * 10 ^ (S - a.scale).toNat : Nat) : Int) := rfl
  have eb : up b S = if b.neg = true then -((b.c * 10 ^ (S - b.scale).toNat : Nat) : Int) else ((b.c * 10 ^ (S - b.scale).toNat : Nat) : Int) := rfl
  generalize a.c * 10 ^ (S - a.scale).toNat = x at *
  generalize b.c * 10 ^ (S - b.scale).toNat = y at *
  generalize up a S = X at *
  generalize up b S = Y at *
  generalize signF a = p at *
  have hX : X = x ∨ X = -x := by rw [ea]; split <;> simp
  have hY : Y = y ∨ Y = -y := by rw [eb]; split <;> simp
  clear ea eb
  unfold cmpZ cmpI
  rcases a4 with rfl | rfl | rfl
  · have := a1.1 rfl
    have := b1.1 rfl
    rw [if_neg (by omega), if_pos (by omega)]; simp
  · have := a2.1 rfl
    have := b2.1 rfl
    by_cases g : x < y
    · rw [if_neg (by omega), if_neg (by omega), if_pos g]; rfl
    · by_cases g2 : x = y
      · rw [if_neg (by omega), if_pos (by omega), if_neg g, if_pos g2]; rfl
      · rw [if_pos (by omega), if_neg g, if_neg g2]; rfl
  · have := a3.1 rfl
    have := b3.1 rfl
    by_cases g : x < y
    · rw [if_pos (by omega), if_pos g]; rfl
    · by_cases g2 : x = y
      · rw [if_neg (by omega), if_pos (by omega), if_neg g, if_pos g2]; rfl
      · rw [if_neg (by omega), if_neg (by omega), if_neg g, if_neg g2]; rfl
theorem wide_small {d : Dc} {S : Int} (h : d.c < 10 ^ 30) (hs : S - d.scale ≤ 9) : d.c * 10 ^ (S - d.scale).toNat < w256 / 4 := by
  have h1 := pow_le10 (show (S - d.scale).toNat ≤ 9 by omega)
  have h2 := Nat.mul_le_mul (Nat.le_of_lt h) h1
  have h3 : 10 ^ 30 * 10 ^ 9 < w256 / 4 := by decide
  omega
theorem addF_shape (a b : Dc) : ∃ (d : Dc) (e : Int), addF a b = .tuple #[d.val, .int .i64 e] := by
  unfold addF
  split
  · exact ⟨_, _, rfl⟩
  · exact dmade_shape _ _ _
theorem subF_shape (a b : Dc) : ∃ (d : Dc) (e : Int), subF a b = .tuple #[d.val, .int .i64 e] := by
  unfold subF
  split
  · exact ⟨_, _, rfl⟩
  · exact addF_shape _ _
theorem mulF_shape (a b : Dc) : ∃ (d : Dc) (e : Int), mulF a b = .tuple #[d.val, .int .i64 e] := by
  unfold mulF
  split
  · exact ⟨_, _, rfl⟩
  · split
    · exact ⟨_, _, rfl⟩
    · exact dmade_shape _ _ _
end Go.Ev
end

/- dec.Cmp, Add, Sub, Mul walked. No condition. -/
noncomputable section
namespace Go.Ev
open Go.Proofs
set_option linter.unusedVariables false
set_option maxRecDepth 100000

theorem cmpI_cases (x y : Nat) : cmpI x y = -1 ∨ cmpI x y = 0 ∨ cmpI x y = 1 := by
  unfold cmpI
  split
  · exact .inl rfl
  · split
    · exact .inr (.inl rfl)
    · exact .inr (.inr rfl)
theorem wide_at {z : St} (wf : WF z) {d : Dc} (hd : d.c < w128) (hr : d.right = true) {S : Int} (h1 : d.scale ≤ S) (h2 : S ≤ 9) :
    Cw Try.prog 46 [d.val, .int .i64 S] z fun r s' => K0 z s' ∧ r = W4 (d.c * 10 ^ (S - d.scale).toNat) := by
  obtain ⟨g1, g2, g3⟩ := Dc.right_c hr
  exact dwide_spec wf d hd (k := (S - d.scale).toNat) (by omega) (by omega) ⟨by omega, by omega⟩
theorem decCmp_spec {z : St} (wf : WF z) (a b : Dc) (ha : a.c < w128) (hb : b.c < w128) : Cw Try.prog 23 [a.val, b.val] z fun r s' => K0 z s' ∧ r = .int .i64 (cmpF a b) := by
  have hp : Hp (fun _ => False) z [] [] z := Hp.start _ wf _ (by simp)
  refine Cw.enterS Try.func23 rfl rfl ?_
  refine Sm.seqW ?_
  conv => whnf
  refine hp.var (cs := a.cells) (e := 4) rfl rfl ?_
  clear hp
  intro p2 s hp _
  conv => whnf
  refine hp.var (cs := b.cells) (e := 4) rfl rfl ?_
  clear hp
  intro p3 s hp _
  conv => whnf
  refine Sm.live [2, 3] ?_
  conv => whnf
  refine Sm.seq ?_
  refine Sm.seqW ?_
  conv => whnf
  refine hp.loadA (l := a.cells) (by repeat (first | exact Has.here | apply Has.there | (apply Has.swap; repeat (first | exact HasR.here | apply HasR.there)))) rfl (by rfl) rfl rfl ?_
  conv => whnf
  refine hp.call (right_spec hp.wf a ha) ?_
  clear hp
  rintro _ s rfl hp _
  conv => whnf
  cases hr : a.right with
  | false =>
    repeat (first | (refine Br.yes (by first | with_reducible rfl | with_reducible exact beq_self_eq_true _ | rfl) ?_; conv => whnf) | (refine Br.no (by first | with_reducible rfl | rfl) ?_; conv => whnf))
    refine Sm.ofW ?_
    conv => whnf
    repeat (first | (refine Br.yes (by first | with_reducible rfl | with_reducible exact beq_self_eq_true _ | rfl) ?_; conv => whnf) | (refine Br.no (by first | with_reducible rfl | rfl) ?_; conv => whnf))
    exact ⟨hp.fr, congrArg (Value.int .i64) (by unfold cmpF; rw [if_pos (.inl hr)])⟩
  | true =>
    repeat (first | (refine Br.yes (by first | with_reducible rfl | with_reducible exact beq_self_eq_true _ | rfl) ?_; conv => whnf) | (refine Br.no (by first | with_reducible rfl | rfl) ?_; conv => whnf))
    refine hp.loadA (l := b.cells) (by repeat (first | exact Has.here | apply Has.there | (apply Has.swap; repeat (first | exact HasR.here | apply HasR.there)))) rfl (by rfl) rfl rfl ?_
    conv => whnf
    repeat (first | (refine Br.yes (by first | with_reducible rfl | with_reducible exact beq_self_eq_true _ | rfl) ?_; conv => whnf) | (refine Br.no (by first | with_reducible rfl | rfl) ?_; conv => whnf))
    refine hp.call (right_spec hp.wf b hb) ?_
    clear hp
    rintro _ s rfl hp _
    conv => whnf
    cases hrb : b.right with
    | false =>
      repeat (first | (refine Br.yes (by first | with_reducible rfl | with_reducible exact beq_self_eq_true _ | rfl) ?_; conv => whnf) | (refine Br.no (by first | with_reducible rfl | rfl) ?_; conv => whnf))
      refine Sm.ofW ?_
      conv => whnf
      repeat (first | (refine Br.yes (by first | with_reducible rfl | with_reducible exact beq_self_eq_true _ | rfl) ?_; conv => whnf) | (refine Br.no (by first | with_reducible rfl | rfl) ?_; conv => whnf))
      exact ⟨hp.fr, congrArg (Value.int .i64) (by unfold cmpF; rw [if_pos (.inr hrb)])⟩
    | true =>
      obtain ⟨a1, a2, a3⟩ := Dc.right_c hr
      obtain ⟨b1, b2, b3⟩ := Dc.right_c hrb
      repeat (first | (refine Br.yes (by first | with_reducible rfl | with_reducible exact beq_self_eq_true _ | rfl) ?_; conv => whnf) | (refine Br.no (by first | with_reducible rfl | rfl) ?_; conv => whnf))
      refine Sm.ofW ?_
      conv => whnf
      repeat (first | (refine Br.yes (by first | with_reducible rfl | with_reducible exact beq_self_eq_true _ | rfl) ?_; conv => whnf) | (refine Br.no (by first | with_reducible rfl | rfl) ?_; conv => whnf))
      refine Sm.seqW ?_
      conv => whnf
      refine ⟨[0, 1, 0, 7, 15, 31], by decide +kernel, by decide +kernel, ?_⟩
      conv => whnf
      refine hp.loadA (l := a.cells) (by repeat (first | exact Has.here | apply Has.there | (apply Has.swap; repeat (first | exact HasR.here | apply HasR.there)))) rfl (by rfl) rfl rfl ?_
      conv => whnf
      refine hp.rst.call (dsign_spec hp.rst.wf a ha) ?_
      rintro _ s1 rfl h1 k1
      conv => whnf
      refine hp.dkN h1 k1 ?_
      clear hp h1 k1
      intro s hp
      conv => whnf
      refine hp.loadA (l := b.cells) (by repeat (first | exact Has.here | apply Has.there | (apply Has.swap; repeat (first | exact HasR.here | apply HasR.there)))) rfl (by rfl) rfl rfl ?_
      conv => whnf
      refine hp.rst.call (dsign_spec hp.rst.wf b hb) ?_
      rintro _ s1 rfl h1 k1
      conv => whnf
      refine hp.dkN h1 k1 ?_
      clear hp h1 k1
      intro s hp
      conv => whnf
      refine Sm.live [2, 3, 5, 6] ?_
      conv => whnf
      refine Sm.seq ?_
      refine Sm.seqW ?_
      conv => whnf
      refine Sm.ofW ?_
      conv => whnf
      by_cases hs : signF a = signF b
      · refine Br.no (bne_eq_false_iff_eq.2 hs) ?_
        conv => whnf
        refine Sm.seqW ?_
        conv => whnf
        refine hp.load (v := .int .i64 a.scale) (by repeat (first | exact Has.here | apply Has.there | (apply Has.swap; repeat (first | exact HasR.here | apply HasR.there)))) (by rfl) rfl rfl rfl ?_
        conv => whnf
        refine hp.load (v := .int .i64 b.scale) (by repeat (first | exact Has.here | apply Has.there | (apply Has.swap; repeat (first | exact HasR.here | apply HasR.there)))) (by rfl) rfl rfl rfl ?_
        conv => whnf
        have em : (if a.scale < b.scale then b.scale else a.scale) = max a.scale b.scale := by split <;> omega
        have em2 : (if b.scale > a.scale then b.scale else a.scale) = max a.scale b.scale := em
        rw [em2]
        generalize hS : max a.scale b.scale = S at *
        refine Sm.live [2, 3, 5, 7] ?_
        conv => whnf
        refine Sm.seqW ?_
        conv => whnf
        refine ⟨[0, 0, 3, 0, 0, 31, 63, 0, 255, 511], by decide +kernel, by decide +kernel, ?_⟩
        conv => whnf
        refine hp.loadA (l := a.cells) (by repeat (first | exact Has.here | apply Has.there | (apply Has.swap; repeat (first | exact HasR.here | apply HasR.there)))) rfl (by rfl) rfl rfl ?_
        conv => whnf
        refine hp.rst.call (wide_at hp.rst.wf ha hr (S := S) (by omega) (by omega)) ?_
        rintro _ s1 rfl h1 k1
        conv => whnf
        refine hp.dkN h1 k1 ?_
        clear hp h1 k1
        intro s hp
        conv => whnf
        refine hp.loadA (l := b.cells) (by repeat (first | exact Has.here | apply Has.there | (apply Has.swap; repeat (first | exact HasR.here | apply HasR.there)))) rfl (by rfl) rfl rfl ?_
        conv => whnf
        refine hp.rst.call (wide_at hp.rst.wf hb hrb (S := S) (by omega) (by omega)) ?_
        rintro _ s1 rfl h1 k1
        conv => whnf
        refine hp.dkN h1 k1 ?_
        clear hp h1 k1
        intro s hp
        conv => whnf
        have wa := wide_small (S := S) a1 (by omega)
        have wb := wide_small (S := S) b1 (by omega)
        refine hp.rst.call (dcmp_spec hp.rst.wf (a := a.c * 10 ^ (S - a.scale).toNat) (b := b.c * 10 ^ (S - b.scale).toNat) (by simp only [w256] at *; omega) (by simp only [w256] at *; omega)) ?_
        rintro _ s1 rfl h1 k1
        conv => whnf
        refine hp.dkN h1 k1 ?_
        clear hp h1 k1
        intro s hp
        conv => whnf
        refine Sm.ofW ?_
        conv => whnf
        refine ⟨hp.fr, congrArg (Value.int .i64) ?_⟩
        rw [cmp_same hr hrb hs, hS]
        rcases cmpI_cases (a.c * 10 ^ (S - a.scale).toNat) (b.c * 10 ^ (S - b.scale).toNat) with e | e | e <;> rcases (up_sign S hr).2.2.2 with g | g | g <;> rw [e, g] <;> rfl
      · refine Br.yes (bne_iff_ne.2 hs) ?_
        conv => whnf
        by_cases hlt : signF a < signF b
        · refine Br.yes (decide_eq_true hlt) ?_
          conv => whnf
          exact ⟨hp.fr, congrArg (Value.int .i64) (by rw [cmp_sign hr hrb hs, if_pos hlt])⟩
        · refine Br.no (decide_eq_false hlt) ?_
          conv => whnf
          exact ⟨hp.fr, congrArg (Value.int .i64) (by rw [cmp_sign hr hrb hs, if_neg hlt])⟩
theorem decAdd_spec {z : St} (wf : WF z) (a b : Dc) (ha : a.c < w128) (hb : b.c < w128) : Cw Try.prog 22 [a.val, b.val] z fun r s' => K0 z s' ∧ r = addF a b := by
  have hp : Hp (fun _ => False) z [] [] z := Hp.start _ wf _ (by simp)
  refine Cw.enterS Try.func22 rfl rfl ?_
  refine Sm.seqW ?_
  conv => whnf
  refine hp.var (cs := a.cells) (e := 4) rfl rfl ?_
  clear hp
  intro p2 s hp _
  conv => whnf
  refine hp.var (cs := b.cells) (e := 4) rfl rfl ?_
  clear hp
  intro p3 s hp _
  conv => whnf
  refine hp.alloc (cs := Dc.zero.cells) (e := 4) rfl rfl rfl rfl rfl ?_
  clear hp
  intro p4 s hp _
  conv => whnf
  refine Sm.live [2, 3, 4] ?_
  conv => whnf
  refine Sm.seq ?_
  refine Sm.seqW ?_
  conv => whnf
  refine hp.loadA (l := a.cells) (by repeat (first | exact Has.here | apply Has.there | (apply Has.swap; repeat (first | exact HasR.here | apply HasR.there)))) rfl (by rfl) rfl rfl ?_
  conv => whnf
  refine hp.call (right_spec hp.wf a ha) ?_
  clear hp
  rintro _ s rfl hp _
  conv => whnf
  cases hr : a.right with
  | false =>
    repeat (first | (refine Br.yes (by first | with_reducible rfl | with_reducible exact beq_self_eq_true _ | rfl) ?_; conv => whnf) | (refine Br.no (by first | with_reducible rfl | rfl) ?_; conv => whnf))
    refine Sm.ofW ?_
    conv => whnf
    repeat (first | (refine Br.yes (by first | with_reducible rfl | with_reducible exact beq_self_eq_true _ | rfl) ?_; conv => whnf) | (refine Br.no (by first | with_reducible rfl | rfl) ?_; conv => whnf))
    refine hp.storeW (vs := Dc.zero.cells) rfl (by repeat (first | exact Rm.here | apply Rm.there)) (by first | exact C2_same _ _ _ _ | exact C4_same _ _ _ _ _ _ _ _ | exact Dc_same _ _ | rfl) rfl rfl rfl ?_
    clear hp
    intro s hp _
    conv => whnf
    refine hp.loadA (l := Dc.zero.cells) (by repeat (first | exact Has.here | apply Has.there | (apply Has.swap; repeat (first | exact HasR.here | apply HasR.there)))) rfl (by rfl) rfl rfl ?_
    conv => whnf
    exact ⟨hp.fr, by unfold addF; rw [if_pos (.inl hr)]; rfl⟩
  | true =>
    repeat (first | (refine Br.yes (by first | with_reducible rfl | with_reducible exact beq_self_eq_true _ | rfl) ?_; conv => whnf) | (refine Br.no (by first | with_reducible rfl | rfl) ?_; conv => whnf))
    refine hp.loadA (l := b.cells) (by repeat (first | exact Has.here | apply Has.there | (apply Has.swap; repeat (first | exact HasR.here | apply HasR.there)))) rfl (by rfl) rfl rfl ?_
    conv => whnf
    repeat (first | (refine Br.yes (by first | with_reducible rfl | with_reducible exact beq_self_eq_true _ | rfl) ?_; conv => whnf) | (refine Br.no (by first | with_reducible rfl | rfl) ?_; conv => whnf))
    refine hp.call (right_spec hp.wf b hb) ?_
    clear hp
    rintro _ s rfl hp _
    conv => whnf
    cases hrb : b.right with
    | false =>
      repeat (first | (refine Br.yes (by first | with_reducible rfl | with_reducible exact beq_self_eq_true _ | rfl) ?_; conv => whnf) | (refine Br.no (by first | with_reducible rfl | rfl) ?_; conv => whnf))
      refine Sm.ofW ?_
      conv => whnf
      repeat (first | (refine Br.yes (by first | with_reducible rfl | with_reducible exact beq_self_eq_true _ | rfl) ?_; conv => whnf) | (refine Br.no (by first | with_reducible rfl | rfl) ?_; conv => whnf))
      refine hp.storeW (vs := Dc.zero.cells) rfl (by repeat (first | exact Rm.here | apply Rm.there)) (by first | exact C2_same _ _ _ _ | exact C4_same _ _ _ _ _ _ _ _ | exact Dc_same _ _ | rfl) rfl rfl rfl ?_
      clear hp
      intro s hp _
      conv => whnf
      refine hp.loadA (l := Dc.zero.cells) (by repeat (first | exact Has.here | apply Has.there | (apply Has.swap; repeat (first | exact HasR.here | apply HasR.there)))) rfl (by rfl) rfl rfl ?_
      conv => whnf
      exact ⟨hp.fr, by unfold addF; rw [if_pos (.inr hrb)]; rfl⟩
    | true =>
      obtain ⟨a1, a2, a3⟩ := Dc.right_c hr
      obtain ⟨b1, b2, b3⟩ := Dc.right_c hrb
      repeat (first | (refine Br.yes (by first | with_reducible rfl | with_reducible exact beq_self_eq_true _ | rfl) ?_; conv => whnf) | (refine Br.no (by first | with_reducible rfl | rfl) ?_; conv => whnf))
      refine Sm.ofW ?_
      conv => whnf
      repeat (first | (refine Br.yes (by first | with_reducible rfl | with_reducible exact beq_self_eq_true _ | rfl) ?_; conv => whnf) | (refine Br.no (by first | with_reducible rfl | rfl) ?_; conv => whnf))
      refine Sm.seqW ?_
      conv => whnf
      refine hp.load (v := .int .i64 a.scale) (by repeat (first | exact Has.here | apply Has.there | (apply Has.swap; repeat (first | exact HasR.here | apply HasR.there)))) (by rfl) rfl rfl rfl ?_
      conv => whnf
      refine hp.load (v := .int .i64 b.scale) (by repeat (first | exact Has.here | apply Has.there | (apply Has.swap; repeat (first | exact HasR.here | apply HasR.there)))) (by rfl) rfl rfl rfl ?_
      conv => whnf
      have em2 : (if b.scale > a.scale then b.scale else a.scale) = max a.scale b.scale := by split <;> omega
      have hfin : addF a b = mkI (up a (max a.scale b.scale) + up b (max a.scale b.scale)) (max a.scale b.scale) := by unfold addF; rw [if_neg (by simp [hr, hrb])]
      rw [em2]
      generalize hS : max a.scale b.scale = S at *
      have wa := wide_small (S := S) a1 (by omega)
      have wb := wide_small (S := S) b1 (by omega)
      have hsame := add_same (a := a) (b := b) (S := S)
      have hleft := add_left (a := a) (b := b) (S := S)
      have hright := add_right (a := a) (b := b) (S := S)
      refine Sm.live [2, 3, 4, 6] ?_
      conv => whnf
      refine Sm.seqW ?_
      conv => whnf
      refine ⟨[0, 0, 3, 0, 0, 31, 0, 0, 255, 511], by decide +kernel, by decide +kernel, ?_⟩
      conv => whnf
      refine hp.loadA (l := a.cells) (by repeat (first | exact Has.here | apply Has.there | (apply Has.swap; repeat (first | exact HasR.here | apply HasR.there)))) rfl (by rfl) rfl rfl ?_
      conv => whnf
      refine hp.rst.call (wide_at hp.rst.wf ha hr (S := S) (by omega) (by omega)) ?_
      rintro _ s1 rfl h1 k1
      conv => whnf
      refine hp.dkN h1 k1 ?_
      clear hp h1 k1
      intro s hp
      conv => whnf
      refine hp.loadA (l := b.cells) (by repeat (first | exact Has.here | apply Has.there | (apply Has.swap; repeat (first | exact HasR.here | apply HasR.there)))) rfl (by rfl) rfl rfl ?_
      conv => whnf
      refine hp.rst.call (wide_at hp.rst.wf hb hrb (S := S) (by omega) (by omega)) ?_
      rintro _ s1 rfl h1 k1
      conv => whnf
      refine hp.dkN h1 k1 ?_
      clear hp h1 k1
      intro s hp
      conv => whnf
      generalize a.c * 10 ^ (S - a.scale).toNat = x at *
      generalize b.c * 10 ^ (S - b.scale).toNat = y at *
      refine hp.rst.alloc (cs := C4 0 0 0 0) (e := 1) rfl rfl rfl rfl rfl ?_
      intro p7 s1 h1 k1
      conv => whnf
      refine hp.dkN h1 k1 ?_
      clear hp h1 k1
      intro s hp
      conv => whnf
      refine hp.rst.alloc (cs := C4 0 0 0 0) (e := 1) rfl rfl rfl rfl rfl ?_
      intro p8 s1 h1 k1
      conv => whnf
      refine hp.dkN h1 k1 ?_
      clear hp h1 k1
      intro s hp
      conv => whnf
      refine hp.rst.storeW (vs := C4 (x % w64) (x / w64 % w64) (x / w128 % w64) (x / w192)) rfl (by repeat (first | exact Rm.here | apply Rm.there)) (by first | exact C2_same _ _ _ _ | exact C4_same _ _ _ _ _ _ _ _ | exact Dc_same _ _ | rfl) rfl rfl rfl ?_
      intro s1 h1 l1
      conv => whnf
      refine hp.dkW h1 l1 ?_
      clear hp h1 l1
      intro s hp
      conv => whnf
      refine hp.rst.storeW (vs := C4 (y % w64) (y / w64 % w64) (y / w128 % w64) (y / w192)) rfl (by repeat (first | exact Rm.here | apply Rm.there)) (by first | exact C2_same _ _ _ _ | exact C4_same _ _ _ _ _ _ _ _ | exact Dc_same _ _ | rfl) rfl rfl rfl ?_
      intro s1 h1 l1
      conv => whnf
      refine hp.dkW h1 l1 ?_
      clear hp h1 l1
      intro s hp
      conv => whnf
      refine Sm.live [2, 3, 4, 6, 7, 8] ?_
      conv => whnf
      refine Sm.seq ?_
      refine Sm.block ?_
      refine Sm.seqW ?_
      conv => whnf
      refine hp.load (v := .bool a.neg) (by repeat (first | exact Has.here | apply Has.there | (apply Has.swap; repeat (first | exact HasR.here | apply HasR.there)))) (by rfl) rfl rfl rfl ?_
      conv => whnf
      refine hp.load (v := .bool b.neg) (by repeat (first | exact Has.here | apply Has.there | (apply Has.swap; repeat (first | exact HasR.here | apply HasR.there)))) (by rfl) rfl rfl rfl ?_
      conv => whnf
      refine Om.of _ (rfl) ?_
      conv => whnf
      refine Sm.ofW ?_
      conv => whnf
      have xw : x < w256 := by simp only [w256] at *; omega
      have yw : y < w256 := by simp only [w256] at *; omega
      by_cases hn : a.neg = b.neg
      · refine Br.yes (beq_iff_eq.2 hn) ?_
        conv => whnf
        refine ⟨[0, 1, 0, 0, 12, 0, 63, 127, 127, 511, 1023], by decide +kernel, by decide +kernel, ?_⟩
        conv => whnf
        refine hp.load (v := .bool a.neg) (by repeat (first | exact Has.here | apply Has.there | (apply Has.swap; repeat (first | exact HasR.here | apply HasR.there)))) (by rfl) rfl rfl rfl ?_
        conv => whnf
        refine hp.loadA (l := C4 (x % w64) (x / w64 % w64) (x / w128 % w64) (x / w192)) (by repeat (first | exact Has.here | apply Has.there | (apply Has.swap; repeat (first | exact HasR.here | apply HasR.there)))) rfl (by rfl) rfl rfl ?_
        conv => whnf
        refine hp.loadA (l := C4 (y % w64) (y / w64 % w64) (y / w128 % w64) (y / w192)) (by repeat (first | exact Has.here | apply Has.there | (apply Has.swap; repeat (first | exact HasR.here | apply HasR.there)))) rfl (by rfl) rfl rfl ?_
        conv => whnf
        refine hp.rst.call (dplus_spec hp.rst.wf wa wb) ?_
        rintro _ s1 rfl h1 k1
        conv => whnf
        refine hp.dkN h1 k1 ?_
        clear hp h1 k1
        intro s hp
        conv => whnf
        refine hp.rst.call (dmade_spec hp.rst.wf a.neg (n := x + y) (by simp only [w256] at *; omega) S) ?_
        rintro _ s1 rfl h1 k1
        conv => whnf
        refine hp.dkN h1 k1 ?_
        clear hp h1 k1
        intro s hp
        conv => whnf
        rw [hsame hn, ← hfin]
        obtain ⟨r, re, hx⟩ := addF_shape a b
        rw [hx]
        conv => whnf
        refine hp.rst.storeW (vs := r.cells) rfl (by repeat (first | exact Rm.here | apply Rm.there)) (by first | exact C2_same _ _ _ _ | exact C4_same _ _ _ _ _ _ _ _ | exact Dc_same _ _ | rfl) rfl rfl rfl ?_
        intro s1 h1 l1
        conv => whnf
        refine hp.dkW h1 l1 ?_
        clear hp h1 l1
        intro s hp
        conv => whnf
        refine hp.loadA (l := r.cells) (by repeat (first | exact Has.here | apply Has.there | (apply Has.swap; repeat (first | exact HasR.here | apply HasR.there)))) rfl (by rfl) rfl rfl ?_
        conv => whnf
        exact ⟨hp.fr, rfl⟩
      · refine Br.no (beq_eq_false_iff_ne.2 hn) ?_
        conv => whnf
        refine hp.loadA (l := C4 (x % w64) (x / w64 % w64) (x / w128 % w64) (x / w192)) (by repeat (first | exact Has.here | apply Has.there | (apply Has.swap; repeat (first | exact HasR.here | apply HasR.there)))) rfl (by rfl) rfl rfl ?_
        conv => whnf
        refine hp.loadA (l := C4 (y % w64) (y / w64 % w64) (y / w128 % w64) (y / w192)) (by repeat (first | exact Has.here | apply Has.there | (apply Has.swap; repeat (first | exact HasR.here | apply HasR.there)))) rfl (by rfl) rfl rfl ?_
        conv => whnf
        refine hp.call (dcmp_spec hp.wf xw yw) ?_
        clear hp
        rintro _ s rfl hp _
        conv => whnf
        by_cases hle : y ≤ x
        · have hc : decide (cmpI x y ≥ 0) = true := decide_eq_true (by unfold cmpI; rw [if_neg (by omega)]; split <;> decide)
          refine Br.yes (hc) ?_
          conv => whnf
          refine ⟨[0, 1, 0, 0, 12, 0, 63, 127, 127, 511, 1023], by decide +kernel, by decide +kernel, ?_⟩
          conv => whnf
          refine hp.load (v := .bool a.neg) (by repeat (first | exact Has.here | apply Has.there | (apply Has.swap; repeat (first | exact HasR.here | apply HasR.there)))) (by rfl) rfl rfl rfl ?_
          conv => whnf
          refine hp.loadA (l := C4 (x % w64) (x / w64 % w64) (x / w128 % w64) (x / w192)) (by repeat (first | exact Has.here | apply Has.there | (apply Has.swap; repeat (first | exact HasR.here | apply HasR.there)))) rfl (by rfl) rfl rfl ?_
          conv => whnf
          refine hp.loadA (l := C4 (y % w64) (y / w64 % w64) (y / w128 % w64) (y / w192)) (by repeat (first | exact Has.here | apply Has.there | (apply Has.swap; repeat (first | exact HasR.here | apply HasR.there)))) rfl (by rfl) rfl rfl ?_
          conv => whnf
          refine hp.rst.call (dless_spec hp.rst.wf xw hle) ?_
          rintro _ s1 rfl h1 k1
          conv => whnf
          refine hp.dkN h1 k1 ?_
          clear hp h1 k1
          intro s hp
          conv => whnf
          refine hp.rst.call (dmade_spec hp.rst.wf a.neg (n := x - y) (by omega) S) ?_
          rintro _ s1 rfl h1 k1
          conv => whnf
          refine hp.dkN h1 k1 ?_
          clear hp h1 k1
          intro s hp
          conv => whnf
          rw [hleft hn hle, ← hfin]
          obtain ⟨r, re, hx⟩ := addF_shape a b
          rw [hx]
          conv => whnf
          refine hp.rst.storeW (vs := r.cells) rfl (by repeat (first | exact Rm.here | apply Rm.there)) (by first | exact C2_same _ _ _ _ | exact C4_same _ _ _ _ _ _ _ _ | exact Dc_same _ _ | rfl) rfl rfl rfl ?_
          intro s1 h1 l1
          conv => whnf
          refine hp.dkW h1 l1 ?_
          clear hp h1 l1
          intro s hp
          conv => whnf
          refine hp.loadA (l := r.cells) (by repeat (first | exact Has.here | apply Has.there | (apply Has.swap; repeat (first | exact HasR.here | apply HasR.there)))) rfl (by rfl) rfl rfl ?_
          conv => whnf
          exact ⟨hp.fr, rfl⟩
        · have hc : decide (cmpI x y ≥ 0) = false := decide_eq_false (by unfold cmpI; rw [if_pos (by omega)]; decide)
          refine Br.no (hc) ?_
          conv => whnf
          refine Sm.seqW ?_
          conv => whnf
          refine ⟨[0, 1, 0, 0, 12, 0, 63, 127, 127, 511, 1023], by decide +kernel, by decide +kernel, ?_⟩
          conv => whnf
          refine hp.load (v := .bool b.neg) (by repeat (first | exact Has.here | apply Has.there | (apply Has.swap; repeat (first | exact HasR.here | apply HasR.there)))) (by rfl) rfl rfl rfl ?_
          conv => whnf
          refine hp.loadA (l := C4 (y % w64) (y / w64 % w64) (y / w128 % w64) (y / w192)) (by repeat (first | exact Has.here | apply Has.there | (apply Has.swap; repeat (first | exact HasR.here | apply HasR.there)))) rfl (by rfl) rfl rfl ?_
          conv => whnf
          refine hp.loadA (l := C4 (x % w64) (x / w64 % w64) (x / w128 % w64) (x / w192)) (by repeat (first | exact Has.here | apply Has.there | (apply Has.swap; repeat (first | exact HasR.here | apply HasR.there)))) rfl (by rfl) rfl rfl ?_
          conv => whnf
          refine hp.rst.call (dless_spec hp.rst.wf yw (b := x) (by omega)) ?_
          rintro _ s1 rfl h1 k1
          conv => whnf
          refine hp.dkN h1 k1 ?_
          clear hp h1 k1
          intro s hp
          conv => whnf
          refine hp.rst.call (dmade_spec hp.rst.wf b.neg (n := y - x) (by omega) S) ?_
          rintro _ s1 rfl h1 k1
          conv => whnf
          refine hp.dkN h1 k1 ?_
          clear hp h1 k1
          intro s hp
          conv => whnf
          rw [hright hn (by omega), ← hfin]
          obtain ⟨r, re, hx⟩ := addF_shape a b
          rw [hx]
          conv => whnf
          refine hp.rst.storeW (vs := r.cells) rfl (by repeat (first | exact Rm.here | apply Rm.there)) (by first | exact C2_same _ _ _ _ | exact C4_same _ _ _ _ _ _ _ _ | exact Dc_same _ _ | rfl) rfl rfl rfl ?_
          intro s1 h1 l1
          conv => whnf
          refine hp.dkW h1 l1 ?_
          clear hp h1 l1
          intro s hp
          conv => whnf
          refine Sm.ofW ?_
          conv => whnf
          refine hp.loadA (l := r.cells) (by repeat (first | exact Has.here | apply Has.there | (apply Has.swap; repeat (first | exact HasR.here | apply HasR.there)))) rfl (by rfl) rfl rfl ?_
          conv => whnf
          exact ⟨hp.fr, rfl⟩
theorem decSub_spec {z : St} (wf : WF z) (a b : Dc) (ha : a.c < w128) (hb : b.c < w128) : Cw Try.prog 21 [a.val, b.val] z fun r s' => K0 z s' ∧ r = subF a b := by
  have hp : Hp (fun _ => False) z [] [] z := Hp.start _ wf _ (by simp)
  refine Cw.enterS Try.func21 rfl rfl ?_
  refine Sm.seqW ?_
  conv => whnf
  refine hp.var (cs := a.cells) (e := 4) rfl rfl ?_
  clear hp
  intro p2 s hp _
  conv => whnf
  refine hp.var (cs := b.cells) (e := 4) rfl rfl ?_
  clear hp
  intro p3 s hp _
  conv => whnf
  refine hp.alloc (cs := Dc.zero.cells) (e := 4) rfl rfl rfl rfl rfl ?_
  clear hp
  intro p4 s hp _
  conv => whnf
  refine Sm.live [2, 3, 4] ?_
  conv => whnf
  refine Sm.seq ?_
  refine Sm.seqW ?_
  conv => whnf
  refine hp.loadA (l := b.cells) (by repeat (first | exact Has.here | apply Has.there | (apply Has.swap; repeat (first | exact HasR.here | apply HasR.there)))) rfl (by rfl) rfl rfl ?_
  conv => whnf
  refine hp.call (right_spec hp.wf b hb) ?_
  clear hp
  rintro _ s rfl hp _
  conv => whnf
  cases hrb : b.right with
  | false =>
    repeat (first | (refine Br.yes (by first | with_reducible rfl | with_reducible exact beq_self_eq_true _ | rfl) ?_; conv => whnf) | (refine Br.no (by first | with_reducible rfl | rfl) ?_; conv => whnf))
    refine Sm.ofW ?_
    conv => whnf
    repeat (first | (refine Br.yes (by first | with_reducible rfl | with_reducible exact beq_self_eq_true _ | rfl) ?_; conv => whnf) | (refine Br.no (by first | with_reducible rfl | rfl) ?_; conv => whnf))
    refine hp.storeW (vs := Dc.zero.cells) rfl (by repeat (first | exact Rm.here | apply Rm.there)) (by first | exact C2_same _ _ _ _ | exact C4_same _ _ _ _ _ _ _ _ | exact Dc_same _ _ | rfl) rfl rfl rfl ?_
    clear hp
    intro s hp _
    conv => whnf
    refine hp.loadA (l := Dc.zero.cells) (by repeat (first | exact Has.here | apply Has.there | (apply Has.swap; repeat (first | exact HasR.here | apply HasR.there)))) rfl (by rfl) rfl rfl ?_
    conv => whnf
    exact ⟨hp.fr, by unfold subF; rw [if_pos hrb]; rfl⟩
  | true =>
    repeat (first | (refine Br.yes (by first | with_reducible rfl | with_reducible exact beq_self_eq_true _ | rfl) ?_; conv => whnf) | (refine Br.no (by first | with_reducible rfl | rfl) ?_; conv => whnf))
    refine Sm.ofW ?_
    conv => whnf
    repeat (first | (refine Br.yes (by first | with_reducible rfl | with_reducible exact beq_self_eq_true _ | rfl) ?_; conv => whnf) | (refine Br.no (by first | with_reducible rfl | rfl) ?_; conv => whnf))
    refine Sm.seqW ?_
    conv => whnf
    refine ⟨[0, 0, 2, 7, 15, 15, 63, 127], by decide +kernel, by decide +kernel, ?_⟩
    conv => whnf
    refine hp.loadA (l := a.cells) (by repeat (first | exact Has.here | apply Has.there | (apply Has.swap; repeat (first | exact HasR.here | apply HasR.there)))) rfl (by rfl) rfl rfl ?_
    conv => whnf
    refine hp.loadA (l := b.cells) (by repeat (first | exact Has.here | apply Has.there | (apply Has.swap; repeat (first | exact HasR.here | apply HasR.there)))) rfl (by rfl) rfl rfl ?_
    conv => whnf
    refine hp.rst.call (dneg_spec hp.rst.wf b hb) ?_
    rintro _ s1 rfl h1 k1
    conv => whnf
    refine hp.dkN h1 k1 ?_
    clear hp h1 k1
    intro s hp
    conv => whnf
    refine hp.rst.call (decAdd_spec hp.rst.wf a (negF b) ha (negF_c hb)) ?_
    rintro _ s1 rfl h1 k1
    conv => whnf
    refine hp.dkN h1 k1 ?_
    clear hp h1 k1
    intro s hp
    conv => whnf
    have hfin : addF a (negF b) = subF a b := by unfold subF; rw [if_neg (by simp [hrb])]
    rw [hfin]
    obtain ⟨r, re, hx⟩ := subF_shape a b
    rw [hx]
    conv => whnf
    refine hp.rst.storeW (vs := r.cells) rfl (by repeat (first | exact Rm.here | apply Rm.there)) (by first | exact C2_same _ _ _ _ | exact C4_same _ _ _ _ _ _ _ _ | exact Dc_same _ _ | rfl) rfl rfl rfl ?_
    intro s1 h1 l1
    conv => whnf
    refine hp.dkW h1 l1 ?_
    clear hp h1 l1
    intro s hp
    conv => whnf
    refine Sm.ofW ?_
    conv => whnf
    refine hp.loadA (l := r.cells) (by repeat (first | exact Has.here | apply Has.there | (apply Has.swap; repeat (first | exact HasR.here | apply HasR.there)))) rfl (by rfl) rfl rfl ?_
    conv => whnf
    exact ⟨hp.fr, rfl⟩
theorem decMul_spec {z : St} (wf : WF z) (a b : Dc) (ha : a.c < w128) (hb : b.c < w128) : Cw Try.prog 24 [a.val, b.val] z fun r s' => K0 z s' ∧ r = mulF a b := by
  have hp : Hp (fun _ => False) z [] [] z := Hp.start _ wf _ (by simp)
  refine Cw.enterS Try.func24 rfl rfl ?_
  refine Sm.seqW ?_
  conv => whnf
  refine hp.var (cs := a.cells) (e := 4) rfl rfl ?_
  clear hp
  intro p2 s hp _
  conv => whnf
  refine hp.var (cs := b.cells) (e := 4) rfl rfl ?_
  clear hp
  intro p3 s hp _
  conv => whnf
  refine hp.alloc (cs := Dc.zero.cells) (e := 4) rfl rfl rfl rfl rfl ?_
  clear hp
  intro p4 s hp _
  conv => whnf
  refine Sm.live [2, 3, 4] ?_
  conv => whnf
  refine Sm.seq ?_
  refine Sm.block ?_
  refine Sm.seqW ?_
  conv => whnf
  refine hp.loadA (l := a.cells) (by repeat (first | exact Has.here | apply Has.there | (apply Has.swap; repeat (first | exact HasR.here | apply HasR.there)))) rfl (by rfl) rfl rfl ?_
  conv => whnf
  refine hp.call (right_spec hp.wf a ha) ?_
  clear hp
  rintro _ s rfl hp _
  conv => whnf
  cases hr : a.right with
  | false =>
    repeat (first | (refine Br.yes (by first | with_reducible rfl | with_reducible exact beq_self_eq_true _ | rfl) ?_; conv => whnf) | (refine Br.no (by first | with_reducible rfl | rfl) ?_; conv => whnf))
    refine Sm.ofW ?_
    conv => whnf
    repeat (first | (refine Br.yes (by first | with_reducible rfl | with_reducible exact beq_self_eq_true _ | rfl) ?_; conv => whnf) | (refine Br.no (by first | with_reducible rfl | rfl) ?_; conv => whnf))
    refine hp.storeW (vs := Dc.zero.cells) rfl (by repeat (first | exact Rm.here | apply Rm.there)) (by first | exact C2_same _ _ _ _ | exact C4_same _ _ _ _ _ _ _ _ | exact Dc_same _ _ | rfl) rfl rfl rfl ?_
    clear hp
    intro s hp _
    conv => whnf
    refine hp.loadA (l := Dc.zero.cells) (by repeat (first | exact Has.here | apply Has.there | (apply Has.swap; repeat (first | exact HasR.here | apply HasR.there)))) rfl (by rfl) rfl rfl ?_
    conv => whnf
    exact ⟨hp.fr, by unfold mulF; rw [if_pos (.inl hr)]; rfl⟩
  | true =>
    repeat (first | (refine Br.yes (by first | with_reducible rfl | with_reducible exact beq_self_eq_true _ | rfl) ?_; conv => whnf) | (refine Br.no (by first | with_reducible rfl | rfl) ?_; conv => whnf))
    refine hp.loadA (l := b.cells) (by repeat (first | exact Has.here | apply Has.there | (apply Has.swap; repeat (first | exact HasR.here | apply HasR.there)))) rfl (by rfl) rfl rfl ?_
    conv => whnf
    repeat (first | (refine Br.yes (by first | with_reducible rfl | with_reducible exact beq_self_eq_true _ | rfl) ?_; conv => whnf) | (refine Br.no (by first | with_reducible rfl | rfl) ?_; conv => whnf))
    refine hp.call (right_spec hp.wf b hb) ?_
    clear hp
    rintro _ s rfl hp _
    conv => whnf
    cases hrb : b.right with
    | false =>
      repeat (first | (refine Br.yes (by first | with_reducible rfl | with_reducible exact beq_self_eq_true _ | rfl) ?_; conv => whnf) | (refine Br.no (by first | with_reducible rfl | rfl) ?_; conv => whnf))
      refine Sm.ofW ?_
      conv => whnf
      repeat (first | (refine Br.yes (by first | with_reducible rfl | with_reducible exact beq_self_eq_true _ | rfl) ?_; conv => whnf) | (refine Br.no (by first | with_reducible rfl | rfl) ?_; conv => whnf))
      refine hp.storeW (vs := Dc.zero.cells) rfl (by repeat (first | exact Rm.here | apply Rm.there)) (by first | exact C2_same _ _ _ _ | exact C4_same _ _ _ _ _ _ _ _ | exact Dc_same _ _ | rfl) rfl rfl rfl ?_
      clear hp
      intro s hp _
      conv => whnf
      refine hp.loadA (l := Dc.zero.cells) (by repeat (first | exact Has.here | apply Has.there | (apply Has.swap; repeat (first | exact HasR.here | apply HasR.there)))) rfl (by rfl) rfl rfl ?_
      conv => whnf
      exact ⟨hp.fr, by unfold mulF; rw [if_pos (.inr hrb)]; rfl⟩
    | true =>
      obtain ⟨a1, a2, a3⟩ := Dc.right_c hr
      obtain ⟨b1, b2, b3⟩ := Dc.right_c hrb
      have es : IntKind.i64.wrap (a.scale + b.scale) = a.scale + b.scale := wi64 (by omega) (by omega)
      have hlt : a.c * b.c < w256 := by
        have : a.c * b.c ≤ 10 ^ 30 * 10 ^ 30 := Nat.mul_le_mul (Nat.le_of_lt a1) (Nat.le_of_lt b1)
        have h2 : 10 ^ 30 * 10 ^ 30 < w256 := by decide
        omega
      repeat (first | (refine Br.yes (by first | with_reducible rfl | with_reducible exact beq_self_eq_true _ | rfl) ?_; conv => whnf) | (refine Br.no (by first | with_reducible rfl | rfl) ?_; conv => whnf))
      refine Sm.ofW ?_
      conv => whnf
      repeat (first | (refine Br.yes (by first | with_reducible rfl | with_reducible exact beq_self_eq_true _ | rfl) ?_; conv => whnf) | (refine Br.no (by first | with_reducible rfl | rfl) ?_; conv => whnf))
      refine hp.load (v := .int .i64 a.scale) (by repeat (first | exact Has.here | apply Has.there | (apply Has.swap; repeat (first | exact HasR.here | apply HasR.there)))) (by rfl) rfl rfl rfl ?_
      conv => whnf
      refine hp.load (v := .int .i64 b.scale) (by repeat (first | exact Has.here | apply Has.there | (apply Has.swap; repeat (first | exact HasR.here | apply HasR.there)))) (by rfl) rfl rfl rfl ?_
      conv => whnf
      rw [es]
      by_cases hs : 9 < a.scale + b.scale
      · refine Br.yes (decide_eq_true hs) ?_
        conv => whnf
        refine hp.storeW (vs := Dc.zero.cells) rfl (by repeat (first | exact Rm.here | apply Rm.there)) (by first | exact C2_same _ _ _ _ | exact C4_same _ _ _ _ _ _ _ _ | exact Dc_same _ _ | rfl) rfl rfl rfl ?_
        clear hp
        intro s hp _
        conv => whnf
        refine hp.loadA (l := Dc.zero.cells) (by repeat (first | exact Has.here | apply Has.there | (apply Has.swap; repeat (first | exact HasR.here | apply HasR.there)))) rfl (by rfl) rfl rfl ?_
        conv => whnf
        exact ⟨hp.fr, by unfold mulF; rw [if_neg (by simp [hr, hrb]), if_pos hs]; rfl⟩
      · refine Br.no (decide_eq_false hs) ?_
        conv => whnf
        refine Sm.seqW ?_
        conv => whnf
        refine ⟨[0, 1, 0, 4, 15, 0, 32, 0, 128, 480, 0, 1024, 0, 4096, 15360, 32767, 65535, 65535, 262143, 524287], by decide +kernel, by decide +kernel, ?_⟩
        conv => whnf
        refine hp.load (v := .bool a.neg) (by repeat (first | exact Has.here | apply Has.there | (apply Has.swap; repeat (first | exact HasR.here | apply HasR.there)))) (by rfl) rfl rfl rfl ?_
        conv => whnf
        refine hp.load (v := .bool b.neg) (by repeat (first | exact Has.here | apply Has.there | (apply Has.swap; repeat (first | exact HasR.here | apply HasR.there)))) (by rfl) rfl rfl rfl ?_
        conv => whnf
        refine Om.of _ (rfl) ?_
        conv => whnf
        refine hp.loadA (l := C2 (a.c % w64) (a.c / w64)) (by repeat (first | exact Has.here | apply Has.there | (apply Has.swap; repeat (first | exact HasR.here | apply HasR.there)))) rfl (by rfl) rfl rfl ?_
        conv => whnf
        refine hp.loadA (l := C2 (b.c % w64) (b.c / w64)) (by repeat (first | exact Has.here | apply Has.there | (apply Has.swap; repeat (first | exact HasR.here | apply HasR.there)))) rfl (by rfl) rfl rfl ?_
        conv => whnf
        refine hp.rst.call (lMul_spec hp.rst.wf ha hb) ?_
        rintro _ s1 rfl h1 k1
        conv => whnf
        refine hp.dkN h1 k1 ?_
        clear hp h1 k1
        intro s hp
        conv => whnf
        refine hp.load (v := .int .i64 a.scale) (by repeat (first | exact Has.here | apply Has.there | (apply Has.swap; repeat (first | exact HasR.here | apply HasR.there)))) (by rfl) rfl rfl rfl ?_
        conv => whnf
        refine hp.load (v := .int .i64 b.scale) (by repeat (first | exact Has.here | apply Has.there | (apply Has.swap; repeat (first | exact HasR.here | apply HasR.there)))) (by rfl) rfl rfl rfl ?_
        conv => whnf
        rw [es]
        refine hp.rst.call (dmade_spec hp.rst.wf (a.neg != b.neg) hlt (a.scale + b.scale)) ?_
        rintro _ s1 rfl h1 k1
        conv => whnf
        refine hp.dkN h1 k1 ?_
        clear hp h1 k1
        intro s hp
        conv => whnf
        have hfin : mulF a b = dmade (a.neg != b.neg) (a.c * b.c) (a.scale + b.scale) := by unfold mulF; rw [if_neg (by simp [hr, hrb]), if_neg hs]
        rw [← hfin]
        obtain ⟨r, re, hx⟩ := mulF_shape a b
        rw [hx]
        conv => whnf
        refine hp.rst.storeW (vs := r.cells) rfl (by repeat (first | exact Rm.here | apply Rm.there)) (by first | exact C2_same _ _ _ _ | exact C4_same _ _ _ _ _ _ _ _ | exact Dc_same _ _ | rfl) rfl rfl rfl ?_
        intro s1 h1 l1
        conv => whnf
        refine hp.dkW h1 l1 ?_
        clear hp h1 l1
        intro s hp
        conv => whnf
        refine Sm.ofW ?_
        conv => whnf
        refine hp.loadA (l := r.cells) (by repeat (first | exact Has.here | apply Has.there | (apply Has.swap; repeat (first | exact HasR.here | apply HasR.there)))) rfl (by rfl) rfl rfl ?_
        conv => whnf
        exact ⟨hp.fr, rfl⟩
end Go.Ev
end

/- Decimals as whole numbers at a scale, without a program. No condition. -/
noncomputable section
namespace Go.Ev
open Go.Proofs
set_option linter.unusedVariables false

/-- A decimal of a whole number at a scale. -/
def mkD (x : Int) (S : Int) : Dc := ⟨decide (x < 0), x.natAbs, S⟩
theorem mkD_right {x S : Int} (h : x.natAbs < 10 ^ 30) (h1 : 0 ≤ S) (h2 : S ≤ 9) : (mkD x S).right = true := by
  unfold mkD Dc.right
  simp only [h, decide_true, Bool.true_and, Bool.and_eq_true, decide_eq_true_eq, Bool.not_eq_true', Bool.and_eq_false_iff, decide_eq_false_iff_not]
  exact ⟨h1, h2, by omega⟩
theorem mkI_ok {x S : Int} (h : x.natAbs < 10 ^ 30) : mkI x S = okD (mkD x S) := by
  unfold mkI
  rw [dmade_ok h]
  have : (decide (x < 0) && !decide (x.natAbs = 0)) = decide (x < 0) := by
    by_cases g : x < 0
    · rw [decide_eq_false (show ¬ x.natAbs = 0 by omega)]; simp
    · rw [decide_eq_false g]; rfl
  rw [this]; rfl
theorem up_mkD (x S T : Int) : up (mkD x S) T = x * 10 ^ (T - S).toNat := by
  unfold up mkD
  have e : ((10 : Int) ^ (T - S).toNat) = ((10 ^ (T - S).toNat : Nat) : Int) := by push_cast; rfl
  rw [e]
  generalize 10 ^ (T - S).toNat = g
  by_cases h : x < 0
  · rw [if_pos (by simpa using h), Int.natCast_mul, show ((x.natAbs : Nat) : Int) = -x by omega, Int.neg_mul, Int.neg_neg]
  · rw [if_neg (by simpa using h), Int.natCast_mul, show ((x.natAbs : Nat) : Int) = x by omega]
theorem sign_mkD {x S : Int} (h : x.natAbs < 10 ^ 30) (h1 : 0 ≤ S) (h2 : S ≤ 9) : signF (mkD x S) = if x = 0 then 0 else if x < 0 then -1 else 1 := by
  rw [sign_right (mkD_right h h1 h2)]
  unfold mkD
  by_cases h0 : x = 0
  · subst h0; rfl
  · rw [if_neg (show ¬ x.natAbs = 0 by omega), if_neg h0]
    by_cases g : x < 0 <;> simp [g]
theorem negF_mkD {x S : Int} (h : x.natAbs < 10 ^ 30) (h1 : 0 ≤ S) (h2 : S ≤ 9) : negF (mkD x S) = mkD (-x) S := by
  rw [negF_right (mkD_right h h1 h2)]
  unfold mkD
  congr 1
  · by_cases g : x < 0
    · rw [decide_eq_true g, decide_eq_false (show ¬ -x < 0 by omega)]; rfl
    · by_cases g0 : x = 0
      · subst g0; rfl
      · rw [decide_eq_false g, decide_eq_false (show ¬ x.natAbs = 0 by omega), decide_eq_true (show -x < 0 by omega)]; rfl
  · simp
theorem addF_mkD {x y S T : Int} (hx : x.natAbs < 10 ^ 30) (hy : y.natAbs < 10 ^ 30) (s1 : 0 ≤ S) (s2 : S ≤ 9) (t1 : 0 ≤ T) (t2 : T ≤ 9) :
    addF (mkD x S) (mkD y T) = mkI (x * 10 ^ (max S T - S).toNat + y * 10 ^ (max S T - T).toNat) (max S T) := by
  unfold addF
  rw [if_neg (by simp [mkD_right hx s1 s2, mkD_right hy t1 t2]), up_mkD, up_mkD]
  rfl
theorem subF_mkD {x y S T : Int} (hx : x.natAbs < 10 ^ 30) (hy : y.natAbs < 10 ^ 30) (s1 : 0 ≤ S) (s2 : S ≤ 9) (t1 : 0 ≤ T) (t2 : T ≤ 9) :
    subF (mkD x S) (mkD y T) = mkI (x * 10 ^ (max S T - S).toNat - y * 10 ^ (max S T - T).toNat) (max S T) := by
  unfold subF
  rw [if_neg (by simp [mkD_right hy t1 t2]), negF_mkD hy t1 t2, addF_mkD hx (by omega) s1 s2 t1 t2, Int.neg_mul]
  rfl
theorem cmpF_mkD {x y S T : Int} (hx : x.natAbs < 10 ^ 30) (hy : y.natAbs < 10 ^ 30) (s1 : 0 ≤ S) (s2 : S ≤ 9) (t1 : 0 ≤ T) (t2 : T ≤ 9) :
    cmpF (mkD x S) (mkD y T) = cmpZ (x * 10 ^ (max S T - S).toNat) (y * 10 ^ (max S T - T).toNat) := by
  unfold cmpF
  rw [if_neg (by simp [mkD_right hx s1 s2, mkD_right hy t1 t2]), up_mkD, up_mkD]
  rfl
theorem sgn_mul (x y : Int) : (if (decide (x < 0) != decide (y < 0)) = true then -((x.natAbs * y.natAbs : Nat) : Int) else ((x.natAbs * y.natAbs : Nat) : Int)) = x * y := by
  rw [Int.natCast_mul]
  by_cases hx : x < 0 <;> by_cases hy : y < 0
  · rw [decide_eq_true hx, decide_eq_true hy, if_neg (by decide), show ((x.natAbs : Nat) : Int) = -x by omega, show ((y.natAbs : Nat) : Int) = -y by omega, Int.neg_mul_neg]
  · rw [decide_eq_true hx, decide_eq_false hy, if_pos (by decide), show ((x.natAbs : Nat) : Int) = -x by omega, show ((y.natAbs : Nat) : Int) = y by omega, Int.neg_mul, Int.neg_neg]
  · rw [decide_eq_false hx, decide_eq_true hy, if_pos (by decide), show ((x.natAbs : Nat) : Int) = x by omega, show ((y.natAbs : Nat) : Int) = -y by omega, Int.mul_neg, Int.neg_neg]
  · rw [decide_eq_false hx, decide_eq_false hy, if_neg (by decide), show ((x.natAbs : Nat) : Int) = x by omega, show ((y.natAbs : Nat) : Int) = y by omega]
theorem mulF_mkD {x y S T : Int} (hx : x.natAbs < 10 ^ 30) (hy : y.natAbs < 10 ^ 30) (s1 : 0 ≤ S) (s2 : S ≤ 9) (t1 : 0 ≤ T) (t2 : T ≤ 9) (h : S + T ≤ 9) :
    mulF (mkD x S) (mkD y T) = mkI (x * y) (S + T) := by
  unfold mulF
  have e : (mkD x S).scale = S ∧ (mkD y T).scale = T := ⟨rfl, rfl⟩
  rw [if_neg (by simp [mkD_right hx s1 s2, mkD_right hy t1 t2]), if_neg (by rw [e.1, e.2]; omega), dmade_mk, e.1, e.2]
  exact congrArg (fun z => mkI z (S + T)) (sgn_mul x y)
/-- Rounded, with its sign. -/
def rZ (x : Int) (B : Nat) (mode : Int) : Int := if x < 0 then -((roundN true x.natAbs B mode : Nat) : Int) else ((roundN false x.natAbs B mode : Nat) : Int)
theorem dmade_rZ (x : Int) (B : Nat) (mode S : Int) : dmade (decide (x < 0)) (roundN (decide (x < 0)) x.natAbs B mode) S = mkI (rZ x B mode) S := by
  rw [dmade_mk]
  unfold rZ
  by_cases h : x < 0
  · rw [decide_eq_true h, if_pos rfl, if_pos h]
  · rw [decide_eq_false h, if_neg (by decide), if_neg h]
theorem quantF_down {x S to mode : Int} (hx : x.natAbs < 10 ^ 30) (s1 : 0 ≤ S) (s2 : S ≤ 9) (t1 : 0 ≤ to) (t2 : to ≤ S) (m1 : 0 ≤ mode) (m2 : mode ≤ 4) :
    quantF (mkD x S) to mode = mkI (rZ x (10 ^ (S - to).toNat) mode) to := by
  rw [quantF_eq (mkD_right hx s1 s2) t1 (by omega) m1 m2, ← dmade_rZ]
  have e : qN (mkD x S).neg (mkD x S).c (mkD x S).scale to mode = roundN (decide (x < 0)) x.natAbs (10 ^ (S - to).toNat) mode := by
    show qN (decide (x < 0)) x.natAbs S to mode = _
    unfold qN
    by_cases h : S ≤ to
    · have : to = S := by omega
      subst this
      rw [if_pos (Int.le_refl _), Int.sub_self]
      have := roundN_exact (decide (x < 0)) (n := x.natAbs) (b := 1) (by decide) mode
      rw [Nat.mul_one] at this
      simp only [Int.toNat_zero, Nat.pow_zero]
      rw [this, Nat.mul_one]
    · rw [if_neg h]
  rw [e]; rfl
theorem quantF_up {x S to mode : Int} (hx : x.natAbs < 10 ^ 30) (s1 : 0 ≤ S) (t1 : S ≤ to) (t2 : to ≤ 9) (m1 : 0 ≤ mode) (m2 : mode ≤ 4) :
    quantF (mkD x S) to mode = mkI (x * 10 ^ (to - S).toNat) to := by
  rw [quantF_eq (mkD_right hx s1 (by omega)) (by omega) t2 m1 m2]
  unfold qN
  rw [if_pos (show (mkD x S).scale ≤ to from t1), dmade_mk]
  congr 1
  have := up_mkD x S to
  unfold up at this
  exact this
/-- How far off what is rounded may be. -/
theorem roundN_off (neg : Bool) (n : Nat) {B : Nat} (hB : 0 < B) (mode : Int) :
    roundN neg n B mode * B < n + B ∧ n < roundN neg n B mode * B + B ∧
    (mode = 3 ∨ mode = 4 → 2 * (roundN neg n B mode * B) ≤ 2 * n + B ∧ 2 * n ≤ 2 * (roundN neg n B mode * B) + B) ∧
    (mode = 0 → roundN neg n B mode * B ≤ n) ∧ (mode = 1 → n ≤ roundN neg n B mode * B) ∧ (mode = 2 → (neg = true → n ≤ roundN neg n B mode * B) ∧ (neg = false → roundN neg n B mode * B ≤ n)) := by
  rw [roundN_far neg hB]
  have hd := Nat.div_add_mod n B
  have hr := Nat.mod_lt n hB
  generalize n / B = q at *
  generalize n % B = r at *
  have e : (q + 1) * B = B * q + B := by rw [Nat.add_mul, Nat.one_mul, Nat.mul_comm]
  have e0 : (q + 0) * B = B * q := by rw [Nat.add_zero, Nat.mul_comm]
  generalize B * q = p at *
  have hcmp : ∀ x y : Nat, (cmpI x y < 0 ↔ x < y) ∧ (cmpI x y = 0 ↔ x = y) ∧ (0 < cmpI x y ↔ y < x) := fun x y => by
    unfold cmpI
    split
    · omega
    · split <;> omega
  obtain ⟨h1, h2, h3⟩ := hcmp (r + r) B
  unfold farR
  by_cases m1 : mode = 1
  · subst m1
    rw [if_pos rfl]
    by_cases h : 0 < r
    · rw [if_pos (decide_eq_true h), e]; omega
    · rw [if_neg (by simpa using h), e0]; omega
  rw [if_neg m1]
  by_cases m2 : mode = 2
  · subst m2
    rw [if_pos rfl]
    cases neg with
    | false => rw [if_neg (by simp), e0]; simp; omega
    | true =>
      by_cases h : 0 < r
      · rw [if_pos (by simpa using h), e]; simp; omega
      · rw [if_neg (by simpa using h), e0]; simp; omega
  rw [if_neg m2]
  by_cases m3 : mode = 3
  · subst m3
    rw [if_pos rfl]
    by_cases h : cmpI (r + r) B ≥ 0
    · rw [if_pos (decide_eq_true h), e]; omega
    · rw [if_neg (by simpa using h), e0]; omega
  rw [if_neg m3]
  by_cases m4 : mode = 4
  · subst m4
    rw [if_pos rfl]
    by_cases h : (decide (cmpI (r + r) B > 0) || (cmpI (r + r) B == 0 && decide (q % 2 = 1))) = true
    · rw [if_pos h, e]
      have : 0 ≤ cmpI (r + r) B := by
        simp only [Bool.or_eq_true, decide_eq_true_eq, Bool.and_eq_true, beq_iff_eq] at h
        omega
      omega
    · rw [if_neg h, e0]
      have : ¬ 0 < cmpI (r + r) B := fun g => h (by simp [g])
      omega
  rw [if_neg m4, if_neg (by decide), e0]
  omega
end Go.Ev
end

/- QuantNear walked. No condition. -/
noncomputable section
namespace Go.Ev
open Go.Proofs
set_option linter.unusedVariables false
set_option maxRecDepth 100000

theorem rZ_off (x : Int) {B : Nat} (hB : 0 < B) (mode : Int) :
    rZ x B mode * B < x + B ∧ x < rZ x B mode * B + B ∧
    (mode = 3 ∨ mode = 4 → 2 * (rZ x B mode * B) ≤ 2 * x + B ∧ 2 * x ≤ 2 * (rZ x B mode * B) + B) ∧
    (mode = 0 → (0 ≤ x → rZ x B mode * B ≤ x) ∧ (x < 0 → x ≤ rZ x B mode * B)) ∧
    (mode = 1 → (0 ≤ x → x ≤ rZ x B mode * B) ∧ (x < 0 → rZ x B mode * B ≤ x)) ∧ (mode = 2 → rZ x B mode * B ≤ x) := by
  unfold rZ
  by_cases h : x < 0
  · rw [if_pos h]
    have := roundN_off true x.natAbs hB mode
    generalize roundN true x.natAbs B mode = q at *
    have e : -(q : Int) * (B : Int) = -((q * B : Nat) : Int) := by push_cast; exact Int.neg_mul _ _
    rw [e]
    generalize q * B = p at *
    simp at this
    omega
  · rw [if_neg h]
    have := roundN_off false x.natAbs hB mode
    generalize roundN false x.natAbs B mode = q at *
    have e : (q : Int) * (B : Int) = ((q * B : Nat) : Int) := by push_cast; rfl
    rw [e]
    generalize q * B = p at *
    simp at this
    omega
theorem rZ_abs (x : Int) (B : Nat) (mode : Int) : (rZ x B mode).natAbs ≤ x.natAbs + 1 := by
  unfold rZ
  split
  · have := roundN_le true x.natAbs B mode; omega
  · have := roundN_le false x.natAbs B mode; omega
theorem ofD_mk {x S : Int} (h1 : 0 ≤ S) (h2 : S ≤ 9) : ofD x S = mkD x S := by
  unfold ofD mkD
  congr 1
  omega
theorem mkD_c {x S : Int} (h : x.natAbs < 10 ^ 30) : (mkD x S).c < w128 := Nat.lt_trans h (by decide)
/-- The sign of a number. -/
def sgI (x : Int) : Int := if x = 0 then 0 else if x < 0 then -1 else 1
theorem sgI_cases (x : Int) : (x = 0 ∧ sgI x = 0) ∨ (x < 0 ∧ sgI x = -1) ∨ (0 < x ∧ sgI x = 1) := by
  unfold sgI
  by_cases h : x = 0
  · rw [if_pos h]; exact .inl ⟨h, rfl⟩
  · rw [if_neg h]
    by_cases g : x < 0
    · rw [if_pos g]; exact .inr (.inl ⟨g, rfl⟩)
    · rw [if_neg g]; exact .inr (.inr ⟨by omega, rfl⟩)
theorem p10i (k : Nat) : ((10 : Int) ^ k) = ((10 ^ k : Nat) : Int) := by push_cast; rfl
theorem quantNear_walk {s0 : St} (wf : WF s0) {n scale to mode : Int} (hn : inR n) (hsc : inR scale) (hto : inR to) (hmo : inR mode) :
    Cw Try.prog 5 [.int .i64 n, .int .i64 scale, .int .i64 to, .int .i64 mode] s0 fun r _ => r = .bool true := by
  have hp : Hp (fun _ => False) s0 [] [] s0 := Hp.start _ wf _ (by simp)
  have b1 := Int.emod_nonneg n (show (200000001 : Int) ≠ 0 by decide)
  have b2 := Int.emod_lt_of_pos n (show (0 : Int) < 200000001 by decide)
  have b3 := Int.emod_nonneg scale (show (8 : Int) ≠ 0 by decide)
  have b4 := Int.emod_lt_of_pos scale (show (0 : Int) < 8 by decide)
  have b5 := Int.emod_nonneg mode (show (5 : Int) ≠ 0 by decide)
  have b6 := Int.emod_lt_of_pos mode (show (0 : Int) < 5 by decide)
  have e1 : IntKind.i64.wrap (n % 200000001 - 100000000) = n % 200000001 - 100000000 := wi64 (by omega) (by omega)
  have e2 : IntKind.i64.wrap (scale % 8 + 1) = scale % 8 + 1 := wi64 (by omega) (by omega)
  obtain ⟨K, hK⟩ : ∃ K, K = scale % 8 := ⟨_, rfl⟩
  obtain ⟨M, hM⟩ : ∃ M, M = mode % 5 := ⟨_, rfl⟩
  obtain ⟨x, hx⟩ : ∃ x, x = n % 200000001 - 100000000 := ⟨_, rfl⟩
  obtain ⟨T, hT⟩ : ∃ T, T = to % (K + 1) := ⟨_, rfl⟩
  have b7 := Int.emod_nonneg to (show K + 1 ≠ 0 by omega)
  have b8 := Int.emod_lt_of_pos to (show 0 < K + 1 by omega)
  rw [← hK] at b3 b4 e2
  rw [← hM] at b5 b6
  rw [← hx] at e1
  rw [← hT] at b7 b8
  have rx : inR x := ⟨by omega, by omega⟩
  refine Cw.enterS Try.func5 rfl rfl ?_
  refine Sm.seqW ?_
  conv => whnf
  refine Sm.seqW ?_
  conv => whnf
  refine (pick_spec _ hsc (m := 8) (by decide) (by decide)).mono ?_
  rintro _ s1 ⟨h1, rfl⟩
  obtain rfl := h1.symm
  conv => whnf
  rw [← hK]
  refine Sm.live [0, 1, 2, 3] ?_
  conv => whnf
  refine Sm.seqW ?_
  conv => whnf
  rw [e2]
  refine (pick_spec _ hto (m := K + 1) (by omega) (by omega)).mono ?_
  rintro _ s1 ⟨h1, rfl⟩
  obtain rfl := h1.symm
  conv => whnf
  rw [← hT]
  refine Sm.live [0, 1, 2, 3] ?_
  conv => whnf
  refine Sm.seqW ?_
  conv => whnf
  refine (pick_spec _ hmo (m := 5) (by decide) (by decide)).mono ?_
  rintro _ s1 ⟨h1, rfl⟩
  obtain rfl := h1.symm
  conv => whnf
  rw [← hM]
  refine Sm.live [0, 1, 2, 3] ?_
  conv => whnf
  refine Sm.seqW ?_
  conv => whnf
  refine (pick_spec _ hn (m := 200000001) (by decide) (by decide)).mono ?_
  rintro _ s1 ⟨h1, rfl⟩
  obtain rfl := h1.symm
  conv => whnf
  rw [← hx, e1]
  refine hp.call (rof_spec hp.wf rx K) ?_
  clear hp
  rintro _ s rfl hp _
  conv => whnf
  rw [ofD_mk b3 (by omega)]
  -- what is computed
  obtain ⟨B, hB⟩ : ∃ B : Nat, B = 10 ^ (K - T).toNat := ⟨_, rfl⟩
  have hB0 : 0 < B := hB ▸ p10 _
  have hB7 : B ≤ 10 ^ 7 := hB ▸ pow_le10 (by omega)
  have hBi : ((10 : Int) ^ (K - T).toNat) = (B : Int) := by rw [p10i, hB]
  have x30 : x.natAbs < 10 ^ 30 := by omega
  obtain ⟨N, hN⟩ : ∃ N, N = rZ x B M := ⟨_, rfl⟩
  have hoff := rZ_off x hB0 M
  have hNa := rZ_abs x B M
  rw [← hN] at hoff hNa
  have n30 : N.natAbs < 10 ^ 30 := by omega
  obtain ⟨Z, hZ⟩ : ∃ Z, Z = N * B := ⟨_, rfl⟩
  have hx0 : x = 0 → Z = 0 := fun h => by rw [hZ, hN, h]; simp [rZ, roundN_zero]
  rw [← hZ] at hoff
  have z30 : Z.natAbs < 10 ^ 29 := by omega
  have hq : quantF (mkD x K) T M = okD (mkD N T) := by rw [quantF_down x30 b3 (by omega) b7 (by omega) b5 (by omega), ← hB, ← hN, mkI_ok n30]
  have mx : max T K = K := by omega
  have hs : subF (mkD N T) (mkD x K) = okD (mkD (Z - x) K) := by
    rw [subF_mkD n30 x30 b7 (by omega) b3 (by omega), mx, Int.sub_self, hBi, ← hZ, Int.toNat_zero, Int.pow_zero, Int.mul_one, mkI_ok (by omega)]
  obtain ⟨J, hJ⟩ : ∃ J : Int, J = ((Z - x).natAbs : Nat) := ⟨_, rfl⟩
  have hadd : addF (mkD J K) (mkD J K) = okD (mkD (J + J) K) := by
    rw [addF_mkD (by omega) (by omega) b3 (by omega) b3 (by omega), show max K K = K by omega, Int.sub_self, Int.toNat_zero, Int.pow_zero, Int.mul_one, mkI_ok (by omega)]
  have hcmp : ∀ y : Int, y.natAbs < 10 ^ 30 → cmpF (mkD y K) (mkD 1 T) = cmpZ y B := fun y hy => by
    rw [cmpF_mkD hy (by decide) b3 (by omega) b7 (by omega), show max K T = K by omega, Int.sub_self, hBi, Int.toNat_zero, Int.pow_zero, Int.mul_one, Int.one_mul]
  have hq2 : quantF (mkD N T) T M = okD (mkD N T) := by
    rw [quantF_up n30 b7 (Int.le_refl _) (by omega) b5 (by omega), Int.sub_self, Int.toNat_zero, Int.pow_zero, Int.mul_one, mkI_ok n30]
  have hq3 : quantF (mkD N T) K M = okD (mkD Z K) := by
    rw [quantF_up n30 b7 (by omega) (by omega) b5 (by omega), hBi, ← hZ, mkI_ok (by omega)]
  have hc3 : cmpF (mkD Z K) (mkD N T) = 0 := by
    rw [cmpF_mkD (by omega) n30 b3 (by omega) b7 (by omega), show max K T = K by omega, Int.sub_self, hBi, ← hZ, Int.toNat_zero, Int.pow_zero, Int.mul_one]
    unfold cmpZ; simp
  have hsI : signF (mkD (Z - x) K) = sgI (Z - x) := sign_mkD (by omega) b3 (by omega)
  have hsx : signF (mkD x K) = sgI x := sign_mkD x30 b3 (by omega)
  have xw : (mkD x K).c < w128 := mkD_c x30
  have nw : (mkD N T).c < w128 := mkD_c n30
  have iw : (mkD (Z - x) K).c < w128 := mkD_c (by omega)
  have jw : (mkD J K).c < w128 := mkD_c (by omega)
  have jjw : (mkD (J + J) K).c < w128 := mkD_c (by omega)
  have ow : (mkD 1 T).c < w128 := mkD_c (by decide)
  have zw : (mkD Z K).c < w128 := mkD_c (by omega)
  refine hp.alloc (cs := Dc.zero.cells) (e := 4) rfl rfl rfl rfl rfl ?_
  clear hp
  intro p9 s hp _
  conv => whnf
  refine hp.storeW (vs := (mkD x K).cells) rfl (by repeat (first | exact Rm.here | apply Rm.there)) (by first | exact C2_same _ _ _ _ | exact C4_same _ _ _ _ _ _ _ _ | exact Dc_same _ _ | rfl) rfl rfl rfl ?_
  clear hp
  intro s hp _
  conv => whnf
  refine Sm.live [1, 2, 3, 9] ?_
  conv => whnf
  refine Sm.seqW ?_
  conv => whnf
  refine hp.loadA (l := (mkD x K).cells) (by repeat (first | exact Has.here | apply Has.there | (apply Has.swap; repeat (first | exact HasR.here | apply HasR.there)))) rfl (by rfl) rfl rfl ?_
  conv => whnf
  refine hp.call (quant_spec hp.wf (mkD x K) xw T M) ?_
  clear hp
  rintro _ s rfl hp _
  conv => whnf
  rw [hq]
  conv => whnf
  refine hp.alloc (cs := Dc.zero.cells) (e := 4) rfl rfl rfl rfl rfl ?_
  clear hp
  intro pa s hp _
  conv => whnf
  refine hp.storeW (vs := (mkD N T).cells) rfl (by repeat (first | exact Rm.here | apply Rm.there)) (by first | exact C2_same _ _ _ _ | exact C4_same _ _ _ _ _ _ _ _ | exact Dc_same _ _ | rfl) rfl rfl rfl ?_
  clear hp
  intro s hp _
  conv => whnf
  refine Sm.live [1, 2, 3, 9, 10, 11] ?_
  conv => whnf
  refine Sm.seqW ?_
  conv => whnf
  refine hp.loadA (l := (mkD N T).cells) (by repeat (first | exact Has.here | apply Has.there | (apply Has.swap; repeat (first | exact HasR.here | apply HasR.there)))) rfl (by rfl) rfl rfl ?_
  conv => whnf
  refine hp.loadA (l := (mkD x K).cells) (by repeat (first | exact Has.here | apply Has.there | (apply Has.swap; repeat (first | exact HasR.here | apply HasR.there)))) rfl (by rfl) rfl rfl ?_
  conv => whnf
  refine hp.call (decSub_spec hp.wf (mkD N T) (mkD x K) nw xw) ?_
  clear hp
  rintro _ s rfl hp _
  conv => whnf
  rw [hs]
  conv => whnf
  refine hp.alloc (cs := Dc.zero.cells) (e := 4) rfl rfl rfl rfl rfl ?_
  clear hp
  intro pc s hp _
  conv => whnf
  refine hp.storeW (vs := (mkD (Z - x) K).cells) rfl (by repeat (first | exact Rm.here | apply Rm.there)) (by first | exact C2_same _ _ _ _ | exact C4_same _ _ _ _ _ _ _ _ | exact Dc_same _ _ | rfl) rfl rfl rfl ?_
  clear hp
  intro s hp _
  conv => whnf
  refine Sm.live [1, 2, 3, 9, 10, 11, 12] ?_
  conv => whnf
  refine Sm.seqW ?_
  conv => whnf
  refine hp.loadA (l := (mkD (Z - x) K).cells) (by repeat (first | exact Has.here | apply Has.there | (apply Has.swap; repeat (first | exact HasR.here | apply HasR.there)))) rfl (by rfl) rfl rfl ?_
  conv => whnf
  refine hp.alloc (cs := Dc.zero.cells) (e := 4) rfl rfl rfl rfl rfl ?_
  clear hp
  intro pe s hp _
  conv => whnf
  refine hp.storeW (vs := (mkD (Z - x) K).cells) rfl (by repeat (first | exact Rm.here | apply Rm.there)) (by first | exact C2_same _ _ _ _ | exact C4_same _ _ _ _ _ _ _ _ | exact Dc_same _ _ | rfl) rfl rfl rfl ?_
  clear hp
  intro s hp _
  conv => whnf
  refine Sm.live [1, 2, 3, 9, 10, 11, 12, 14] ?_
  conv => whnf
  refine Sm.seqC (fun e L' s' => e = .normal ∧ Hp (fun _ => False) s0 [] [blkA pc pc (mkD J K).cells 4, blkA pe pe (mkD (Z - x) K).cells 4, blkA pa pa (mkD N T).cells 4, blkA p9 p9 (mkD x K).cells 4] s' ∧ Sub [(1, .int .i64 K), (2, .int .i64 T), (3, .int .i64 M), (9, .pointer (some ⟨p9, 0, none⟩)), (10, .pointer (some ⟨pa, 0, none⟩)), (11, .int .i64 0), (12, .pointer (some ⟨pc, 0, none⟩)), (14, .pointer (some ⟨pe, 0, none⟩))] L') ?_ ?_
  · conv => whnf
    refine hp.loadA (l := (mkD (Z - x) K).cells) (by repeat (first | exact Has.here | apply Has.there | (apply Has.swap; repeat (first | exact HasR.here | apply HasR.there)))) rfl (by rfl) rfl rfl ?_
    conv => whnf
    refine hp.call (dsign_spec hp.wf (mkD (Z - x) K) iw) ?_
    clear hp
    rintro _ s rfl hp _
    conv => whnf
    rw [hsI]
    have hsg := sgI_cases (Z - x)
    by_cases h : Z - x < 0
    · refine Br.yes (decide_eq_true (by omega)) ?_
      conv => whnf
      refine hp.loadA (l := (mkD (Z - x) K).cells) (by repeat (first | exact Has.here | apply Has.there | (apply Has.swap; repeat (first | exact HasR.here | apply HasR.there)))) rfl (by rfl) rfl rfl ?_
      conv => whnf
      refine hp.call (dneg_spec hp.wf (mkD (Z - x) K) iw) ?_
      clear hp
      rintro _ s rfl hp _
      conv => whnf
      rw [negF_mkD (by omega) b3 (by omega), show -(Z - x) = J by omega]
      refine hp.storeW (vs := (mkD J K).cells) rfl (by repeat (first | exact Rm.here | apply Rm.there)) (by first | exact C2_same _ _ _ _ | exact C4_same _ _ _ _ _ _ _ _ | exact Dc_same _ _ | rfl) rfl rfl rfl ?_
      clear hp
      intro s hp _
      conv => whnf
      exact ⟨rfl, hp.pik (by repeat (first | exact Pik.nil | exact Pik.refl _ | exact Rm.here | apply Rm.there | apply Pik.cons | apply Pik.skip)), subK_ok ⟨rfl, rfl, rfl, rfl, rfl, rfl, rfl, rfl, trivial⟩⟩
    · refine Br.no (decide_eq_false (by omega)) ?_
      conv => whnf
      have hj : J = Z - x := by omega
      rw [hj]
      exact ⟨rfl, hp.pik (by repeat (first | exact Pik.nil | exact Pik.refl _ | exact Rm.here | apply Rm.there | apply Pik.cons | apply Pik.skip)), subK_ok ⟨rfl, rfl, rfl, rfl, rfl, rfl, rfl, rfl, trivial⟩⟩
  clear hp
  rintro e L' s ⟨rfl, hp, hs⟩
  refine Sm.weak _ hs ?_
  clear hs
  refine Sm.seqW ?_
  conv => whnf
  refine hp.loadA (l := (mkD J K).cells) (by repeat (first | exact Has.here | apply Has.there | (apply Has.swap; repeat (first | exact HasR.here | apply HasR.there)))) rfl (by rfl) rfl rfl ?_
  conv => whnf
  refine hp.loadA (l := (mkD J K).cells) (by repeat (first | exact Has.here | apply Has.there | (apply Has.swap; repeat (first | exact HasR.here | apply HasR.there)))) rfl (by rfl) rfl rfl ?_
  conv => whnf
  refine hp.call (decAdd_spec hp.wf (mkD J K) (mkD J K) jw jw) ?_
  clear hp
  rintro _ s rfl hp _
  conv => whnf
  rw [hadd]
  conv => whnf
  refine hp.alloc (cs := Dc.zero.cells) (e := 4) rfl rfl rfl rfl rfl ?_
  clear hp
  intro pf s hp _
  conv => whnf
  refine hp.storeW (vs := (mkD (J + J) K).cells) rfl (by repeat (first | exact Rm.here | apply Rm.there)) (by first | exact C2_same _ _ _ _ | exact C4_same _ _ _ _ _ _ _ _ | exact Dc_same _ _ | rfl) rfl rfl rfl ?_
  clear hp
  intro s hp _
  conv => whnf
  refine Sm.live [1, 2, 3, 9, 10, 11, 12, 14, 15] ?_
  conv => whnf
  refine Sm.seqW ?_
  conv => whnf
  refine hp.call (rof_spec hp.wf (n := 1) (by unfold inR; decide) T) ?_
  clear hp
  rintro _ s rfl hp _
  conv => whnf
  rw [ofD_mk b7 (by omega)]
  refine hp.alloc (cs := Dc.zero.cells) (e := 4) rfl rfl rfl rfl rfl ?_
  clear hp
  intro pg s hp _
  conv => whnf
  refine hp.storeW (vs := (mkD 1 T).cells) rfl (by repeat (first | exact Rm.here | apply Rm.there)) (by first | exact C2_same _ _ _ _ | exact C4_same _ _ _ _ _ _ _ _ | exact Dc_same _ _ | rfl) rfl rfl rfl ?_
  clear hp
  intro s hp _
  conv => whnf
  refine Sm.live [1, 2, 3, 9, 10, 11, 12, 14, 15, 17] ?_
  conv => whnf
  have hc1 : cmpF (mkD J K) (mkD 1 T) = -1 := by rw [hcmp J (by omega)]; unfold cmpZ; rw [if_pos (by omega)]
  have hc2 : 3 ≤ M → cmpF (mkD (J + J) K) (mkD 1 T) ≤ 0 := fun h3 => by
    rw [hcmp (J + J) (by omega)]
    have := hoff.2.2.1 (by omega)
    unfold cmpZ
    by_cases g : J + J < B
    · rw [if_pos g]; decide
    · rw [if_neg g, if_pos (by omega)]; decide
  refine Sm.seq ?_
  refine Sm.seqC (fun e L' s' => e = .normal ∧ Hp (fun _ => False) s0 [] [blkA pe pe (mkD (Z - x) K).cells 4, blkA pa pa (mkD N T).cells 4, blkA p9 p9 (mkD x K).cells 4] s' ∧ Sub [(1, .int .i64 K), (2, .int .i64 T), (3, .int .i64 M), (9, .pointer (some ⟨p9, 0, none⟩)), (10, .pointer (some ⟨pa, 0, none⟩)), (14, .pointer (some ⟨pe, 0, none⟩)), (89, .bool false)] L') ?_ ?_
  · conv => whnf
    refine hp.call ((qknown_spec hp.wf).mono fun r s' ⟨h1, h2⟩ => ⟨h2, h1⟩) ?_
    clear hp
    rintro _ s rfl hp _
    conv => whnf
    repeat (first | (refine Br.yes (by first | with_reducible rfl | with_reducible exact beq_self_eq_true _ | rfl) ?_; conv => whnf) | (refine Br.no (by first | with_reducible rfl | with_reducible exact bne_self_eq_false _ | rfl) ?_; conv => whnf))
    refine hp.load (v := .int .i64 T) (by repeat (first | exact Has.here | apply Has.there | (apply Has.swap; repeat (first | exact HasR.here | apply HasR.there)))) (by rfl) rfl rfl rfl ?_
    conv => whnf
    repeat (first | (refine Br.yes (by first | with_reducible rfl | with_reducible exact beq_self_eq_true _ | rfl) ?_; conv => whnf) | (refine Br.no (by first | with_reducible rfl | with_reducible exact bne_self_eq_false _ | rfl) ?_; conv => whnf))
    refine hp.loadA (l := (mkD J K).cells) (by repeat (first | exact Has.here | apply Has.there | (apply Has.swap; repeat (first | exact HasR.here | apply HasR.there)))) rfl (by rfl) rfl rfl ?_
    conv => whnf
    repeat (first | (refine Br.yes (by first | with_reducible rfl | with_reducible exact beq_self_eq_true _ | rfl) ?_; conv => whnf) | (refine Br.no (by first | with_reducible rfl | with_reducible exact bne_self_eq_false _ | rfl) ?_; conv => whnf))
    refine hp.loadA (l := (mkD 1 T).cells) (by repeat (first | exact Has.here | apply Has.there | (apply Has.swap; repeat (first | exact HasR.here | apply HasR.there)))) rfl (by rfl) rfl rfl ?_
    conv => whnf
    repeat (first | (refine Br.yes (by first | with_reducible rfl | with_reducible exact beq_self_eq_true _ | rfl) ?_; conv => whnf) | (refine Br.no (by first | with_reducible rfl | with_reducible exact bne_self_eq_false _ | rfl) ?_; conv => whnf))
    refine hp.call (decCmp_spec hp.wf (mkD J K) (mkD 1 T) jw ow) ?_
    clear hp
    rintro _ s rfl hp _
    conv => whnf
    rw [hc1]
    repeat (first | (refine Br.yes (by first | with_reducible rfl | with_reducible exact beq_self_eq_true _ | rfl) ?_; conv => whnf) | (refine Br.no (by first | with_reducible rfl | with_reducible exact bne_self_eq_false _ | rfl) ?_; conv => whnf))
    by_cases h3 : 3 ≤ M
    · refine Br.yes (decide_eq_true h3) ?_
      conv => whnf
      refine hp.loadA (l := (mkD (J + J) K).cells) (by repeat (first | exact Has.here | apply Has.there | (apply Has.swap; repeat (first | exact HasR.here | apply HasR.there)))) rfl (by rfl) rfl rfl ?_
      conv => whnf
      refine Br.yes (decide_eq_true h3) ?_
      conv => whnf
      refine hp.loadA (l := (mkD 1 T).cells) (by repeat (first | exact Has.here | apply Has.there | (apply Has.swap; repeat (first | exact HasR.here | apply HasR.there)))) rfl (by rfl) rfl rfl ?_
      conv => whnf
      refine Br.yes (decide_eq_true h3) ?_
      conv => whnf
      refine hp.call (decCmp_spec hp.wf (mkD (J + J) K) (mkD 1 T) jjw ow) ?_
      clear hp
      rintro _ s rfl hp _
      conv => whnf
      refine Br.yes (decide_eq_true h3) ?_
      conv => whnf
      have hc3' : decide (cmpF (mkD (J + J) K) (mkD 1 T) > 0) = false := decide_eq_false (by have := hc2 h3; omega)
      repeat (first | (refine Br.yes (by first | with_reducible rfl | with_reducible exact beq_self_eq_true _ | rfl) ?_; conv => whnf) | (refine Br.no (by first | with_reducible rfl | with_reducible exact bne_self_eq_false _ | rfl) ?_; conv => whnf))
      refine Br.yes (decide_eq_true h3) ?_
      conv => whnf
      repeat (first | (refine Br.yes (by first | with_reducible rfl | with_reducible exact beq_self_eq_true _ | rfl) ?_; conv => whnf) | (refine Br.no (by first | with_reducible rfl | with_reducible exact bne_self_eq_false _ | rfl) ?_; conv => whnf))
      exact ⟨rfl, hp.pik (by repeat (first | exact Pik.nil | exact Pik.refl _ | exact Rm.here | apply Rm.there | apply Pik.cons | apply Pik.skip)), subK_ok ⟨rfl, rfl, rfl, rfl, rfl, rfl, congrArg (fun x => some (Value.bool x)) hc3', trivial⟩⟩
    · repeat (first | (refine Br.no (decide_eq_false h3) ?_; conv => whnf) | (first | (refine Br.yes (by first | with_reducible rfl | with_reducible exact beq_self_eq_true _ | rfl) ?_; conv => whnf) | (refine Br.no (by first | with_reducible rfl | with_reducible exact bne_self_eq_false _ | rfl) ?_; conv => whnf)))
      exact ⟨rfl, hp.pik (by repeat (first | exact Pik.nil | exact Pik.refl _ | exact Rm.here | apply Rm.there | apply Pik.cons | apply Pik.skip)), subK_ok ⟨rfl, rfl, rfl, rfl, rfl, rfl, rfl, trivial⟩⟩
  clear hp
  rintro e L' s ⟨rfl, hp, hs⟩
  refine Sm.weak _ hs ?_
  clear hs
  refine Sm.ofW ?_
  conv => whnf
  repeat (first | (refine Br.yes (by first | with_reducible rfl | with_reducible exact beq_self_eq_true _ | rfl) ?_; conv => whnf) | (refine Br.no (by first | with_reducible rfl | with_reducible exact bne_self_eq_false _ | rfl) ?_; conv => whnf))
  refine Sm.seqC (fun e L' s' => e = .normal ∧ Hp (fun _ => False) s0 [] [blkA pe pe (mkD (Z - x) K).cells 4, blkA pa pa (mkD N T).cells 4, blkA p9 p9 (mkD x K).cells 4] s' ∧ Sub [(1, .int .i64 K), (2, .int .i64 T), (3, .int .i64 M), (10, .pointer (some ⟨pa, 0, none⟩))] L') ?_ ?_
  · conv => whnf
    by_cases m0 : M = 0
    · have ho := hoff.2.2.2.1 m0
      subst m0
      repeat (first | (refine Br.yes (by first | with_reducible rfl | with_reducible exact beq_self_eq_true _ | rfl) ?_; conv => whnf) | (refine Br.no (by first | with_reducible rfl | with_reducible exact bne_self_eq_false _ | rfl) ?_; conv => whnf))
      refine ⟨[0, 1, 3, 7, 15, 31, 15, 127, 255, 511], by decide +kernel, by decide +kernel, ?_⟩
      conv => whnf
      refine hp.loadA (l := (mkD (Z - x) K).cells) (by repeat (first | exact Has.here | apply Has.there | (apply Has.swap; repeat (first | exact HasR.here | apply HasR.there)))) rfl (by rfl) rfl rfl ?_
      conv => whnf
      refine hp.rst.call (dsign_spec hp.rst.wf (mkD (Z - x) K) iw) ?_
      rintro _ s1 rfl h1 k1
      conv => whnf
      refine hp.dkN h1 k1 ?_
      clear hp h1 k1
      intro s hp
      conv => whnf
      rw [hsI]
      have hz := sgI_cases (Z - x)
      have hy := sgI_cases x
      by_cases h0 : sgI (Z - x) = 0
      · rw [h0]
        repeat (first | (refine Br.yes (by first | with_reducible rfl | with_reducible exact beq_self_eq_true _ | rfl) ?_; conv => whnf) | (refine Br.no (by first | with_reducible rfl | with_reducible exact bne_self_eq_false _ | rfl) ?_; conv => whnf))
        exact ⟨rfl, hp.pik (by repeat (first | exact Pik.nil | exact Pik.refl _ | exact Rm.here | apply Rm.there | apply Pik.cons | apply Pik.skip)), subK_ok ⟨rfl, rfl, rfl, rfl, trivial⟩⟩
      · have hne : (sgI (Z - x) != 0) = true := bne_iff_ne.2 h0
        refine Br.yes (hne) ?_
        conv => whnf
        refine hp.loadA (l := (mkD (Z - x) K).cells) (by repeat (first | exact Has.here | apply Has.there | (apply Has.swap; repeat (first | exact HasR.here | apply HasR.there)))) rfl (by rfl) rfl rfl ?_
        conv => whnf
        refine Br.yes (hne) ?_
        conv => whnf
        refine hp.rst.call (dsign_spec hp.rst.wf (mkD (Z - x) K) iw) ?_
        rintro _ s1 rfl h1 k1
        conv => whnf
        refine hp.dkN h1 k1 ?_
        clear hp h1 k1
        intro s hp
        conv => whnf
        rw [hsI]
        refine Br.yes (hne) ?_
        conv => whnf
        refine hp.loadA (l := (mkD x K).cells) (by repeat (first | exact Has.here | apply Has.there | (apply Has.swap; repeat (first | exact HasR.here | apply HasR.there)))) rfl (by rfl) rfl rfl ?_
        conv => whnf
        refine Br.yes (hne) ?_
        conv => whnf
        refine hp.rst.call (dsign_spec hp.rst.wf (mkD x K) xw) ?_
        rintro _ s1 rfl h1 k1
        conv => whnf
        refine hp.dkN h1 k1 ?_
        clear hp h1 k1
        intro s hp
        conv => whnf
        rw [hsx]
        refine Br.yes (hne) ?_
        conv => whnf
        refine Br.yes (hne) ?_
        conv => whnf
        have hcc : (sgI (Z - x) == sgI x) = false := beq_eq_false_iff_ne.2 (by omega)
        refine Br.no (hcc) ?_
        conv => whnf
        exact ⟨rfl, hp.pik (by repeat (first | exact Pik.nil | exact Pik.refl _ | exact Rm.here | apply Rm.there | apply Pik.cons | apply Pik.skip)), subK_ok ⟨rfl, rfl, rfl, rfl, trivial⟩⟩
    refine Br.no (beq_eq_false_iff_ne.2 m0) ?_
    conv => whnf
    by_cases m1 : M = 1
    · have ho := hoff.2.2.2.2.1 m1
      subst m1
      repeat (first | (refine Br.yes (by first | with_reducible rfl | with_reducible exact beq_self_eq_true _ | rfl) ?_; conv => whnf) | (refine Br.no (by first | with_reducible rfl | with_reducible exact bne_self_eq_false _ | rfl) ?_; conv => whnf))
      refine ⟨[0, 1, 3, 7, 15, 31, 15, 127, 255, 511], by decide +kernel, by decide +kernel, ?_⟩
      conv => whnf
      refine hp.loadA (l := (mkD (Z - x) K).cells) (by repeat (first | exact Has.here | apply Has.there | (apply Has.swap; repeat (first | exact HasR.here | apply HasR.there)))) rfl (by rfl) rfl rfl ?_
      conv => whnf
      refine hp.rst.call (dsign_spec hp.rst.wf (mkD (Z - x) K) iw) ?_
      rintro _ s1 rfl h1 k1
      conv => whnf
      refine hp.dkN h1 k1 ?_
      clear hp h1 k1
      intro s hp
      conv => whnf
      rw [hsI]
      have hz := sgI_cases (Z - x)
      have hy := sgI_cases x
      by_cases h0 : sgI (Z - x) = 0
      · rw [h0]
        repeat (first | (refine Br.yes (by first | with_reducible rfl | with_reducible exact beq_self_eq_true _ | rfl) ?_; conv => whnf) | (refine Br.no (by first | with_reducible rfl | with_reducible exact bne_self_eq_false _ | rfl) ?_; conv => whnf))
        exact ⟨rfl, hp.pik (by repeat (first | exact Pik.nil | exact Pik.refl _ | exact Rm.here | apply Rm.there | apply Pik.cons | apply Pik.skip)), subK_ok ⟨rfl, rfl, rfl, rfl, trivial⟩⟩
      · have hne : (sgI (Z - x) != 0) = true := bne_iff_ne.2 h0
        refine Br.yes (hne) ?_
        conv => whnf
        refine hp.loadA (l := (mkD (Z - x) K).cells) (by repeat (first | exact Has.here | apply Has.there | (apply Has.swap; repeat (first | exact HasR.here | apply HasR.there)))) rfl (by rfl) rfl rfl ?_
        conv => whnf
        refine Br.yes (hne) ?_
        conv => whnf
        refine hp.rst.call (dsign_spec hp.rst.wf (mkD (Z - x) K) iw) ?_
        rintro _ s1 rfl h1 k1
        conv => whnf
        refine hp.dkN h1 k1 ?_
        clear hp h1 k1
        intro s hp
        conv => whnf
        rw [hsI]
        refine Br.yes (hne) ?_
        conv => whnf
        refine hp.loadA (l := (mkD x K).cells) (by repeat (first | exact Has.here | apply Has.there | (apply Has.swap; repeat (first | exact HasR.here | apply HasR.there)))) rfl (by rfl) rfl rfl ?_
        conv => whnf
        refine Br.yes (hne) ?_
        conv => whnf
        refine hp.rst.call (dsign_spec hp.rst.wf (mkD x K) xw) ?_
        rintro _ s1 rfl h1 k1
        conv => whnf
        refine hp.dkN h1 k1 ?_
        clear hp h1 k1
        intro s hp
        conv => whnf
        rw [hsx]
        refine Br.yes (hne) ?_
        conv => whnf
        refine Br.yes (hne) ?_
        conv => whnf
        have hcc : (sgI (Z - x) != sgI x) = false := bne_eq_false_iff_eq.2 (by omega)
        refine Br.no (hcc) ?_
        conv => whnf
        exact ⟨rfl, hp.pik (by repeat (first | exact Pik.nil | exact Pik.refl _ | exact Rm.here | apply Rm.there | apply Pik.cons | apply Pik.skip)), subK_ok ⟨rfl, rfl, rfl, rfl, trivial⟩⟩
    refine Br.no (beq_eq_false_iff_ne.2 m1) ?_
    conv => whnf
    by_cases m2 : M = 2
    · have ho := hoff.2.2.2.2.2 m2
      subst m2
      repeat (first | (refine Br.yes (by first | with_reducible rfl | with_reducible exact beq_self_eq_true _ | rfl) ?_; conv => whnf) | (refine Br.no (by first | with_reducible rfl | with_reducible exact bne_self_eq_false _ | rfl) ?_; conv => whnf))
      refine hp.loadA (l := (mkD (Z - x) K).cells) (by repeat (first | exact Has.here | apply Has.there | (apply Has.swap; repeat (first | exact HasR.here | apply HasR.there)))) rfl (by rfl) rfl rfl ?_
      conv => whnf
      refine hp.call (dsign_spec hp.wf (mkD (Z - x) K) iw) ?_
      clear hp
      rintro _ s rfl hp _
      conv => whnf
      rw [hsI]
      have hz := sgI_cases (Z - x)
      refine Br.no (decide_eq_false (by omega)) ?_
      conv => whnf
      exact ⟨rfl, hp.pik (by repeat (first | exact Pik.nil | exact Pik.refl _ | exact Rm.here | apply Rm.there | apply Pik.cons | apply Pik.skip)), subK_ok ⟨rfl, rfl, rfl, rfl, trivial⟩⟩
    refine Br.no (beq_eq_false_iff_ne.2 m2) ?_
    conv => whnf
    exact ⟨rfl, hp.pik (by repeat (first | exact Pik.nil | exact Pik.refl _ | exact Rm.here | apply Rm.there | apply Pik.cons | apply Pik.skip)), subK_ok ⟨rfl, rfl, rfl, rfl, trivial⟩⟩
  clear hp
  rintro e L' s ⟨rfl, hp, hs⟩
  refine Sm.weak _ hs ?_
  clear hs
  refine Sm.seqW ?_
  conv => whnf
  refine hp.loadA (l := (mkD N T).cells) (by repeat (first | exact Has.here | apply Has.there | (apply Has.swap; repeat (first | exact HasR.here | apply HasR.there)))) rfl (by rfl) rfl rfl ?_
  conv => whnf
  refine hp.call (quant_spec hp.wf (mkD N T) nw T M) ?_
  clear hp
  rintro _ s rfl hp _
  conv => whnf
  rw [hq2]
  conv => whnf
  refine hp.alloc (cs := Dc.zero.cells) (e := 4) rfl rfl rfl rfl rfl ?_
  clear hp
  intro ph s hp _
  conv => whnf
  refine hp.storeW (vs := (mkD N T).cells) rfl (by repeat (first | exact Rm.here | apply Rm.there)) (by first | exact C2_same _ _ _ _ | exact C4_same _ _ _ _ _ _ _ _ | exact Dc_same _ _ | rfl) rfl rfl rfl ?_
  clear hp
  intro s hp _
  conv => whnf
  refine Sm.live [1, 3, 10, 18, 19] ?_
  conv => whnf
  refine Sm.seqW ?_
  conv => whnf
  refine hp.loadA (l := (mkD N T).cells) (by repeat (first | exact Has.here | apply Has.there | (apply Has.swap; repeat (first | exact HasR.here | apply HasR.there)))) rfl (by rfl) rfl rfl ?_
  conv => whnf
  refine hp.call (quant_spec hp.wf (mkD N T) nw K M) ?_
  clear hp
  rintro _ s rfl hp _
  conv => whnf
  rw [hq3]
  conv => whnf
  refine hp.alloc (cs := Dc.zero.cells) (e := 4) rfl rfl rfl rfl rfl ?_
  clear hp
  intro pi s hp _
  conv => whnf
  refine hp.storeW (vs := (mkD Z K).cells) rfl (by repeat (first | exact Rm.here | apply Rm.there)) (by first | exact C2_same _ _ _ _ | exact C4_same _ _ _ _ _ _ _ _ | exact Dc_same _ _ | rfl) rfl rfl rfl ?_
  clear hp
  intro s hp _
  conv => whnf
  refine Sm.live [10, 18, 19, 20, 21] ?_
  conv => whnf
  refine Sm.seqW ?_
  conv => whnf
  repeat (first | (refine Br.yes (by first | with_reducible rfl | with_reducible exact beq_self_eq_true _ | rfl) ?_; conv => whnf) | (refine Br.no (by first | with_reducible rfl | with_reducible exact bne_self_eq_false _ | rfl) ?_; conv => whnf))
  refine hp.loadA (l := (mkD N T).cells) (by repeat (first | exact Has.here | apply Has.there | (apply Has.swap; repeat (first | exact HasR.here | apply HasR.there)))) rfl (by rfl) rfl rfl ?_
  conv => whnf
  repeat (first | (refine Br.yes (by first | with_reducible rfl | with_reducible exact beq_self_eq_true _ | rfl) ?_; conv => whnf) | (refine Br.no (by first | with_reducible rfl | with_reducible exact bne_self_eq_false _ | rfl) ?_; conv => whnf))
  refine hp.loadA (l := (mkD N T).cells) (by repeat (first | exact Has.here | apply Has.there | (apply Has.swap; repeat (first | exact HasR.here | apply HasR.there)))) rfl (by rfl) rfl rfl ?_
  conv => whnf
  repeat (first | (refine Br.yes (by first | with_reducible rfl | with_reducible exact beq_self_eq_true _ | rfl) ?_; conv => whnf) | (refine Br.no (by first | with_reducible rfl | with_reducible exact bne_self_eq_false _ | rfl) ?_; conv => whnf))
  refine Om.of _ (dcv_eq (mkD N T) _) ?_
  conv => whnf
  repeat (first | (refine Br.yes (by first | with_reducible rfl | with_reducible exact beq_self_eq_true _ | rfl) ?_; conv => whnf) | (refine Br.no (by first | with_reducible rfl | with_reducible exact bne_self_eq_false _ | rfl) ?_; conv => whnf))
  refine hp.loadA (l := (mkD Z K).cells) (by repeat (first | exact Has.here | apply Has.there | (apply Has.swap; repeat (first | exact HasR.here | apply HasR.there)))) rfl (by rfl) rfl rfl ?_
  conv => whnf
  repeat (first | (refine Br.yes (by first | with_reducible rfl | with_reducible exact beq_self_eq_true _ | rfl) ?_; conv => whnf) | (refine Br.no (by first | with_reducible rfl | with_reducible exact bne_self_eq_false _ | rfl) ?_; conv => whnf))
  refine hp.loadA (l := (mkD N T).cells) (by repeat (first | exact Has.here | apply Has.there | (apply Has.swap; repeat (first | exact HasR.here | apply HasR.there)))) rfl (by rfl) rfl rfl ?_
  conv => whnf
  repeat (first | (refine Br.yes (by first | with_reducible rfl | with_reducible exact beq_self_eq_true _ | rfl) ?_; conv => whnf) | (refine Br.no (by first | with_reducible rfl | with_reducible exact bne_self_eq_false _ | rfl) ?_; conv => whnf))
  refine hp.call (decCmp_spec hp.wf (mkD Z K) (mkD N T) zw nw) ?_
  clear hp
  rintro _ s rfl hp _
  conv => whnf
  rw [hc3]
  repeat (first | (refine Br.yes (by first | with_reducible rfl | with_reducible exact beq_self_eq_true _ | rfl) ?_; conv => whnf) | (refine Br.no (by first | with_reducible rfl | with_reducible exact bne_self_eq_false _ | rfl) ?_; conv => whnf))
  refine Sm.ofW ?_
  conv => whnf
  exact ⟨rfl⟩
end Go.Ev
end

/- QuantUnits walked. No condition. -/
noncomputable section
namespace Go.Ev
open Go.Proofs
set_option linter.unusedVariables false
set_option maxRecDepth 100000

/-- A quotient by a number above 0. -/
theorem divF_mkD {x S T to mode : Int} {y : Nat} (hx : x.natAbs < 10 ^ 30) (hy : y < 10 ^ 30) (hy0 : 0 < y) (s1 : 0 ≤ S) (s2 : S ≤ 9) (t1 : 0 ≤ T) (t2 : T ≤ 9) (o1 : 0 ≤ to) (o2 : to ≤ 9) (m1 : 0 ≤ mode) (m2 : mode ≤ 4) :
    divF (mkD x S) (mkD (y : Int) T) to mode = mkI (rZ (x * 10 ^ (to + T).toNat) (y * 10 ^ S.toNat) mode) to := by
  have hyr : (mkD (y : Int) T).right = true := mkD_right (by simpa using hy) t1 t2
  have hyc : (mkD (y : Int) T).c = y := by simp [mkD]
  rw [divF_eq (mkD_right hx s1 s2) hyr (by rw [hyc]; omega) o1 o2 m1 m2, ← dN_eq _ _ (mkD_right hx s1 s2) hyr (by rw [hyc]; omega) o1, hyc]
  have en : ((mkD x S).neg != (mkD (y : Int) T).neg) = decide (x < 0) := by
    show (decide (x < 0) != decide ((y : Int) < 0)) = _
    rw [decide_eq_false (show ¬ (y : Int) < 0 by omega)]; simp
  rw [en, ← dmade_rZ]
  have e1 : decide (x * 10 ^ (to + T).toNat < 0) = decide (x < 0) := by
    have := p10 (to + T).toNat
    rw [p10i]
    generalize 10 ^ (to + T).toNat = g at *
    refine decide_eq_decide.2 ⟨fun h => ?_, fun h => ?_⟩
    · rcases Int.lt_or_le x 0 with k | k
      · exact k
      · have := Int.mul_nonneg k (show (0 : Int) ≤ (g : Int) by omega); omega
    · exact Int.mul_neg_of_neg_of_pos h (by omega)
  have e2 : (x * 10 ^ (to + T).toNat).natAbs = x.natAbs * 10 ^ (to + T).toNat := by
    rw [Int.natAbs_mul, p10i, Int.natAbs_natCast]
  rw [e1, e2]
  rfl
theorem rZ_mul (x : Int) {B k : Nat} (hB : 0 < B) (hk : 0 < k) (mode : Int) : rZ (x * (k : Int)) (B * k) mode = rZ x B mode := by
  unfold rZ
  have e2 : (x * (k : Int)).natAbs = x.natAbs * k := by rw [Int.natAbs_mul, Int.natAbs_natCast]
  have e1 : x * (k : Int) < 0 ↔ x < 0 := by
    constructor
    · intro h
      rcases Int.lt_or_le x 0 with g | g
      · exact g
      · have := Int.mul_nonneg g (show (0 : Int) ≤ (k : Int) by omega); omega
    · intro h; exact Int.mul_neg_of_neg_of_pos h (by omega)
  rw [e2, roundN_mul true hB hk, roundN_mul false hB hk]
  simp only [e1]
theorem rZ_exact (x : Int) {B : Nat} (hB : 0 < B) (mode : Int) : rZ (x * (B : Int)) B mode = x := by
  have := rZ_mul x (B := 1) (k := B) (by decide) hB mode
  rw [Nat.one_mul] at this
  rw [this]
  unfold rZ
  have e := fun b => roundN_exact b (n := x.natAbs) (b := 1) (by decide) mode
  simp only [Nat.mul_one] at e
  rw [e, e]
  split <;> omega
theorem unitF_mkD {x S T mode : Int} {y : Nat} (hx : x.natAbs < 10 ^ 30) (hy : y < 10 ^ 30) (hy0 : 0 < y) (s1 : 0 ≤ S) (s2 : S ≤ 9) (t1 : 0 ≤ T) (t2 : T ≤ 9) (m1 : 0 ≤ mode) (m2 : mode ≤ 4) :
    unitF (mkD x S) (mkD (y : Int) T) mode = mkI (rZ (x * 10 ^ T.toNat) (y * 10 ^ S.toNat) mode * y) T := by
  have hyr : (mkD (y : Int) T).right = true := mkD_right (by simpa using hy) t1 t2
  have hyc : (mkD (y : Int) T).c = y := by simp [mkD]
  have hys : signF (mkD (y : Int) T) = 1 := by
    rw [sign_mkD (by simpa using hy) t1 t2, if_neg (by omega), if_neg (by omega)]
  unfold unitF
  rw [rightAll_of (by simp; exact ⟨mkD_right hx s1 s2, hyr⟩) (by decide) (by decide) m1 m2, if_neg (by rw [hys]; decide), ← dN_eq _ _ (mkD_right hx s1 s2) hyr (by rw [hyc]; omega) (by decide), hyc, dmade_mk]
  have e1 : decide (x * 10 ^ T.toNat < 0) = decide (x < 0) := by
    have := p10 T.toNat
    rw [p10i]
    generalize 10 ^ T.toNat = g at *
    refine decide_eq_decide.2 ⟨fun h => ?_, fun h => ?_⟩
    · rcases Int.lt_or_le x 0 with k | k
      · exact k
      · have := Int.mul_nonneg k (show (0 : Int) ≤ (g : Int) by omega); omega
    · exact Int.mul_neg_of_neg_of_pos h (by omega)
  have e2 : (x * 10 ^ T.toNat).natAbs = x.natAbs * 10 ^ T.toNat := by
    rw [Int.natAbs_mul, p10i, Int.natAbs_natCast]
  show mkI (if decide (x < 0) = true then -((roundN (decide (x < 0)) (x.natAbs * 10 ^ (0 + T).toNat) (y * 10 ^ S.toNat) mode * y : Nat) : Int) else ((roundN (decide (x < 0)) (x.natAbs * 10 ^ (0 + T).toNat) (y * 10 ^ S.toNat) mode * y : Nat) : Int)) T = _
  rw [Int.zero_add]
  congr 1
  unfold rZ
  rw [e2]
  by_cases h : x < 0
  · rw [decide_eq_true h] at e1 ⊢
    rw [if_pos rfl, if_pos (of_decide_eq_true e1)]
    simp only [Int.natCast_mul]
    exact (Int.neg_mul _ _).symm
  · rw [decide_eq_false h] at e1 ⊢
    rw [if_neg (by decide), if_neg (of_decide_eq_false e1)]
    simp only [Int.natCast_mul]
theorem timesF_mkD {x S T to mode : Int} {y : Nat} (hx : x.natAbs < 10 ^ 30) (hy : y < 10 ^ 30) (s1 : 0 ≤ S) (s2 : S ≤ 9) (t1 : 0 ≤ T) (t2 : T ≤ 9) (o2 : to ≤ 9) (m1 : 0 ≤ mode) (m2 : mode ≤ 4) (ho : S + T ≤ to) :
    timesF (mkD x S) (mkD (y : Int) T) to mode = mkI (x * y * 10 ^ (to - S - T).toNat) to := by
  have hyr : (mkD (y : Int) T).right = true := mkD_right (by simpa using hy) t1 t2
  have hyc : (mkD (y : Int) T).c = y := by simp [mkD]
  rw [timesF_eq (mkD_right hx s1 s2) hyr (by omega) o2 m1 m2, hyc]
  have e3 : to.toNat = (to - S - T).toNat + (S + T).toNat := by omega
  have e4 : (mkD x S).c * y * 10 ^ to.toNat = ((mkD x S).c * y * 10 ^ (to - S - T).toNat) * 10 ^ (S + T).toNat := by
    rw [e3, Nat.pow_add, Nat.mul_assoc ((mkD x S).c * y)]
  have e5 : ((mkD x S).scale + (mkD (y : Int) T).scale).toNat = (S + T).toNat := rfl
  rw [e4, e5, roundN_exact _ (p10 _), dmade_mk]
  congr 1
  have en : ((mkD x S).neg != (mkD (y : Int) T).neg) = decide (x < 0) := by
    show (decide (x < 0) != decide ((y : Int) < 0)) = _
    rw [decide_eq_false (show ¬ (y : Int) < 0 by omega)]; simp
  rw [en]
  have ec : (mkD x S).c = x.natAbs := rfl
  rw [ec, p10i]
  simp only [Int.natCast_mul]
  by_cases h : x < 0
  · rw [decide_eq_true h, if_pos rfl, show ((x.natAbs : Nat) : Int) = -x by omega]
    rw [Int.neg_mul, Int.neg_mul, Int.neg_neg]
  · rw [decide_eq_false h, if_neg (by decide), show ((x.natAbs : Nat) : Int) = x by omega]
end Go.Ev
end

/- QuantUnits walked. No condition. -/
noncomputable section
namespace Go.Ev
open Go.Proofs
set_option linter.unusedVariables false
set_option maxRecDepth 100000

theorem cmpF_self (d : Dc) : cmpF d d = 0 := by
  unfold cmpF cmpZ
  split <;> simp
theorem abs_le {a : Int} {n : Nat} (h : a.natAbs ≤ n) : -(n : Int) ≤ a ∧ a ≤ n := by omega
theorem lt_abs {a : Int} {n : Nat} (h : -(n : Int) < a ∧ a < n) : a.natAbs < n := by omega
theorem le_abs {a : Int} {n : Nat} (h : -(n : Int) ≤ a ∧ a ≤ n) : a.natAbs ≤ n := by omega
theorem dbl_abs {J : Int} (h : J.natAbs < 10 ^ 20) : (J + J).natAbs < 10 ^ 30 := by omega
theorem abs_mul {a : Int} {k m n : Nat} (h : a.natAbs ≤ m) (hk : k ≤ n) : -((m * n : Nat) : Int) ≤ a * (k : Int) ∧ a * (k : Int) ≤ ((m * n : Nat) : Int) := by
  refine abs_le ?_
  rw [Int.natAbs_mul, Int.natAbs_natCast]
  exact Nat.mul_le_mul h hk
theorem rZ_le (x : Int) (B : Nat) (mode : Int) {n : Nat} (h : -(n : Int) ≤ x ∧ x ≤ n) : -((n + 1 : Nat) : Int) ≤ rZ x B mode ∧ rZ x B mode ≤ ((n + 1 : Nat) : Int) := by
  have := rZ_abs x B mode
  omega
theorem units_a {x S T M : Int} {y : Nat} (xs : -10000000 ≤ x ∧ x ≤ 10000000) (ys : 0 < y ∧ y ≤ 5000) (b2 : 0 ≤ S ∧ S < 4) (b4 : 0 ≤ T ∧ T < 3) (Ms : M = 3 ∨ M = 4) :
    ∃ U Z O V : Int, U.natAbs < 10 ^ 20 ∧ Z.natAbs < 10 ^ 20 ∧ O.natAbs < 10 ^ 20 ∧ unitF (mkD x S) (mkD (y : Int) T) M = okD (mkD U T) ∧ divF (mkD U T) (mkD (y : Int) T) 0 2 = okD (mkD Z 0) ∧
      mulF (mkD Z 0) (mkD (y : Int) T) = okD (mkD U T) ∧ subF (mkD U T) (mkD x S) = okD (mkD O V) ∧ (0 ≤ V ∧ V ≤ 9) ∧ ∀ J : Int, J = O ∨ J = -O → cmpF (mkD (J + J) V) (mkD (y : Int) T) ≤ 0 := by
  obtain ⟨V, hV⟩ : ∃ V, V = max T S := ⟨_, rfl⟩
  have V9 : 0 ≤ V ∧ V ≤ 9 := by omega
  have VT : max V T = V := by omega
  have t0 : T ≤ 9 ∧ S ≤ 9 ∧ 0 + T ≤ 9 := by omega
  have t1 : T.toNat = (V - S).toNat + (S + T - V).toNat := by omega
  have t2 : S.toNat = (V - T).toNat + (S + T - V).toNat := by omega
  have t3 : (V - T).toNat ≤ 3 ∧ (V - S).toNat ≤ 2 := by omega
  have Ms2 : 0 ≤ M ∧ M ≤ 4 := by omega
  obtain ⟨g1, hg1⟩ : ∃ g : Nat, g = 10 ^ (V - T).toNat := ⟨_, rfl⟩
  obtain ⟨g2, hg2⟩ : ∃ g : Nat, g = 10 ^ (V - S).toNat := ⟨_, rfl⟩
  have g1p : 0 < g1 := hg1 ▸ p10 _
  have g1s : g1 ≤ 10 ^ 3 := hg1 ▸ pow_le10 t3.1
  have g2s : g2 ≤ 10 ^ 2 := hg2 ▸ pow_le10 t3.2
  obtain ⟨Z, hZ⟩ : ∃ Z, Z = rZ (x * (g2 : Int)) (y * g1) M := ⟨_, rfl⟩
  have hk := p10 (S + T - V).toNat
  have hZ2 : rZ (x * 10 ^ T.toNat) (y * 10 ^ S.toNat) M = Z := by
    rw [hZ, p10i, t1, t2, Nat.pow_add, Nat.pow_add, ← hg1, ← hg2, Int.natCast_mul, ← Int.mul_assoc, ← Nat.mul_assoc]
    exact rZ_mul _ (Nat.mul_pos ys.1 g1p) hk M
  have hoff := (rZ_off (x * (g2 : Int)) (Nat.mul_pos ys.1 g1p) M).2.2.1 Ms
  have xg := abs_mul (le_abs (n := 10000000) (by omega)) g2s (a := x)
  have zb := rZ_le (x * (g2 : Int)) (y * g1) M xg
  rw [← hZ] at hoff zb
  obtain ⟨U, hU⟩ : ∃ U, U = Z * (y : Int) := ⟨_, rfl⟩
  have ub := abs_mul (le_abs zb) ys.2
  rw [← hU] at ub
  obtain ⟨G, hG⟩ : ∃ G, G = x * (g2 : Int) := ⟨_, rfl⟩
  have eU : U * (g1 : Int) = Z * ((y * g1 : Nat) : Int) := by rw [hU, Int.mul_assoc]; push_cast; rfl
  rw [← hG] at hoff xg
  rw [← eU] at hoff
  have yg : y * g1 ≤ 5000 * 10 ^ 3 := Nat.mul_le_mul ys.2 g1s
  obtain ⟨E, hE⟩ : ∃ E, E = U * (g1 : Int) := ⟨_, rfl⟩
  rw [← hE] at hoff
  obtain ⟨F, hF⟩ : ∃ F : Nat, F = y * g1 := ⟨_, rfl⟩
  rw [← hF] at hoff yg
  have x30 : x.natAbs < 10 ^ 30 := lt_abs (by omega)
  have y30 : y < 10 ^ 30 := by omega
  have y30' : (y : Int).natAbs < 10 ^ 30 := lt_abs (by omega)
  have u30 : U.natAbs < 10 ^ 20 := lt_abs (by omega)
  have z30 : Z.natAbs < 10 ^ 20 := lt_abs (by omega)
  have o30 : (E - G).natAbs < 10 ^ 20 := lt_abs (by omega)
  have k30 : (10 : Nat) ^ 20 < 10 ^ 30 := by decide
  have u31 := Nat.lt_trans u30 k30
  have z31 := Nat.lt_trans z30 k30
  have o31 := Nat.lt_trans o30 k30
  refine ⟨U, Z, E - G, V, u30, z30, o30, ?_, ?_, ?_, ?_, V9, fun J hJ => ?_⟩
  · rw [unitF_mkD x30 y30 ys.1 b2.1 t0.2.1 b4.1 t0.1 Ms2.1 Ms2.2, hZ2, ← hU, mkI_ok u31]
  · rw [divF_mkD u31 y30 ys.1 b4.1 t0.1 b4.1 t0.1 (by decide) (by decide) (by decide) (by decide), Int.zero_add, hU, p10i, Int.mul_assoc, ← Int.natCast_mul, rZ_exact _ (Nat.mul_pos ys.1 (p10 _)), mkI_ok z31]
  · rw [mulF_mkD z31 y30' (by decide) (by decide) b4.1 t0.1 t0.2.2, ← hU, Int.zero_add, mkI_ok u31]
  · rw [subF_mkD u31 x30 b4.1 t0.1 b2.1 t0.2.1, ← hV, p10i, p10i, ← hg1, ← hg2, ← hE, ← hG, mkI_ok o31]
  · have j30 : (J + J).natAbs < 10 ^ 30 := lt_abs (by omega)
    rw [cmpF_mkD j30 y30' V9.1 V9.2 b4.1 t0.1, VT, Int.sub_self, Int.toNat_zero, Int.pow_zero, Int.mul_one, p10i, ← hg1, ← Int.natCast_mul, ← hF]
    unfold cmpZ
    by_cases g : J + J < (F : Int)
    · rw [if_pos g]; decide
    · rw [if_neg g, if_pos (by omega)]; decide
theorem units_b {x S : Int} {D : Nat} (xs : -10000000 ≤ x ∧ x ≤ 10000000) (b2 : 0 ≤ S ∧ S < 4) (Ds : 0 < D ∧ D ≤ 3000) :
    ∃ Q P W X Y : Int, Q.natAbs < 10 ^ 20 ∧ P.natAbs < 10 ^ 20 ∧ W.natAbs < 10 ^ 20 ∧ X.natAbs < 10 ^ 20 ∧ Y.natAbs < 10 ^ 20 ∧ divF (mkD x S) (mkD (D : Int) 1) 3 0 = okD (mkD Q 3) ∧ mulF (mkD Q 3) (mkD (D : Int) 1) = okD (mkD P 4) ∧
      subF (mkD x S) (mkD P 4) = okD (mkD W 4) ∧ mulF (mkD (D : Int) 1) (mkD 1 3) = okD (mkD (D : Int) 4) ∧ (∀ L : Int, L = W ∨ L = -W → cmpF (mkD L 4) (mkD (D : Int) 4) = -1) ∧ timesF (mkD x S) (mkD (D : Int) 1) 9 0 = okD (mkD Y 9) ∧
      mulF (mkD x S) (mkD (D : Int) 1) = okD (mkD X (S + 1)) ∧ cmpF (mkD Y 9) (mkD X (S + 1)) = 0 := by
  have t0 : S ≤ 9 ∧ S + 1 ≤ 9 ∧ 0 ≤ S + 1 ∧ max S 4 = 4 ∧ max 9 (S + 1) = 9 ∧ (4 - S).toNat ≤ 4 ∧ (9 - S - 1).toNat ≤ 8 ∧ (9 - (S + 1)).toNat = (9 - S - 1).toNat ∧ ((3 : Int) + 1).toNat = (4 - S).toNat + S.toNat := by omega
  obtain ⟨h4, hh4⟩ : ∃ g : Nat, g = 10 ^ (4 - S).toNat := ⟨_, rfl⟩
  have h4s : h4 ≤ 10 ^ 4 := hh4 ▸ pow_le10 t0.2.2.2.2.2.1
  obtain ⟨Q, hQ⟩ : ∃ Q, Q = rZ (x * (h4 : Int)) D 0 := ⟨_, rfl⟩
  have hQ2 : rZ (x * 10 ^ ((3 : Int) + 1).toNat) (D * 10 ^ S.toNat) 0 = Q := by
    rw [hQ, p10i, t0.2.2.2.2.2.2.2.2, Nat.pow_add, ← hh4, Int.natCast_mul, ← Int.mul_assoc]
    exact rZ_mul _ Ds.1 (p10 _) 0
  have qoff := rZ_off (x * (h4 : Int)) Ds.1 0
  have xh := abs_mul (le_abs (n := 10000000) (by omega)) h4s (a := x)
  have qb := rZ_le (x * (h4 : Int)) D 0 xh
  rw [← hQ] at qoff qb
  obtain ⟨G, hG⟩ : ∃ G, G = x * (h4 : Int) := ⟨_, rfl⟩
  obtain ⟨P, hP⟩ : ∃ P, P = Q * (D : Int) := ⟨_, rfl⟩
  have pb := abs_mul (le_abs qb) Ds.2
  rw [← hP] at qoff pb
  rw [← hG] at qoff xh
  have q1 := qoff.1
  have q2 := qoff.2.1
  clear qoff
  obtain ⟨X, hX⟩ : ∃ X, X = x * (D : Int) := ⟨_, rfl⟩
  have xb := abs_mul (le_abs (n := 10000000) (by omega)) Ds.2 (a := x)
  rw [← hX] at xb
  obtain ⟨h8, hh8⟩ : ∃ g : Nat, g = 10 ^ (9 - S - 1).toNat := ⟨_, rfl⟩
  have h8s : h8 ≤ 10 ^ 8 := hh8 ▸ pow_le10 t0.2.2.2.2.2.2.1
  obtain ⟨Y, hY⟩ : ∃ Y, Y = X * (h8 : Int) := ⟨_, rfl⟩
  have yb := abs_mul (le_abs xb) h8s
  rw [← hY] at yb
  have D30 : D < 10 ^ 30 := by omega
  have D30' : (D : Int).natAbs < 10 ^ 30 := lt_abs (by omega)
  have x30 : x.natAbs < 10 ^ 30 := lt_abs (by omega)
  have q30 : Q.natAbs < 10 ^ 20 := lt_abs (by omega)
  have p30 : P.natAbs < 10 ^ 20 := lt_abs (by omega)
  have w30 : (G - P).natAbs < 10 ^ 20 := lt_abs (by omega)
  have X30 : X.natAbs < 10 ^ 20 := lt_abs (by omega)
  have Y30 : Y.natAbs < 10 ^ 20 := lt_abs (by omega)
  have k30 : (10 : Nat) ^ 20 < 10 ^ 30 := by decide
  have q31 := Nat.lt_trans q30 k30
  have p31 := Nat.lt_trans p30 k30
  have w31 := Nat.lt_trans w30 k30
  have X31 := Nat.lt_trans X30 k30
  have Y31 := Nat.lt_trans Y30 k30
  refine ⟨Q, P, G - P, X, Y, q30, p30, w30, X30, Y30, ?_, ?_, ?_, ?_, fun L hL => ?_, ?_, ?_, ?_⟩
  · rw [divF_mkD x30 D30 Ds.1 b2.1 t0.1 (by decide) (by decide) (by decide) (by decide) (by decide) (by decide), hQ2, mkI_ok q31]
  · rw [mulF_mkD q31 D30' (by decide) (by decide) (by decide) (by decide) (by decide), ← hP]
    exact mkI_ok p31
  · rw [subF_mkD x30 p31 b2.1 t0.1 (by decide) (by decide), t0.2.2.2.1, p10i, ← hh4, Int.sub_self, Int.toNat_zero, Int.pow_zero, Int.mul_one, ← hG, mkI_ok w31]
  · rw [mulF_mkD D30' (by decide) (by decide) (by decide) (by decide) (by decide) (by decide), Int.mul_one]
    exact mkI_ok D30'
  · have l30 : L.natAbs < 10 ^ 30 := lt_abs (by omega)
    rw [cmpF_mkD l30 D30' (by decide) (by decide) (by decide) (by decide)]
    simp only [Int.max_self, Int.sub_self, Int.toNat_zero, Int.pow_zero, Int.mul_one]
    unfold cmpZ
    rw [if_pos (by omega)]
  · rw [timesF_mkD x30 D30 b2.1 t0.1 (by decide) (by decide) (by decide) (by decide) (by decide) t0.2.1, ← hX, p10i, ← hh8, ← hY, mkI_ok Y31]
  · rw [mulF_mkD x30 D30' b2.1 t0.1 (by decide) (by decide) t0.2.1, ← hX, mkI_ok X31]
  · rw [cmpF_mkD Y31 X31 (by decide) (by decide) t0.2.2.1 t0.2.1, t0.2.2.2.2.1, Int.sub_self, Int.toNat_zero, Int.pow_zero, Int.mul_one, p10i, t0.2.2.2.2.2.2.2.1, ← hh8, ← hY]
    unfold cmpZ; simp
set_option maxHeartbeats 1000000 in
theorem quantUnits_walk {s0 : St} (wf : WF s0) {n scale unit by_ m mode : Int} (hn : inR n) (hsc : inR scale) (hun : inR unit) (hby : inR by_) (hm : inR m) (hmo : inR mode) :
    Cw Try.prog 6 [.int .i64 n, .int .i64 scale, .int .i64 unit, .int .i64 by_, .int .i64 m, .int .i64 mode] s0 fun r _ => r = .bool true := by
  have hp : Hp (fun _ => False) s0 [] [] s0 := Hp.start _ wf _ (by simp)
  have pk : ∀ (x : Int) (m : Int), 0 < m → 0 ≤ x % m ∧ x % m < m := fun x m h => ⟨Int.emod_nonneg _ (by omega), Int.emod_lt_of_pos _ h⟩
  obtain ⟨x, hx⟩ : ∃ x, x = n % 20000001 - 10000000 := ⟨_, rfl⟩
  obtain ⟨S, hS⟩ : ∃ S, S = scale % 4 := ⟨_, rfl⟩
  obtain ⟨y, hy⟩ : ∃ y : Nat, (y : Int) = 1 + unit % 5000 := ⟨(1 + unit % 5000).toNat, by have := pk unit 5000 (by decide); omega⟩
  obtain ⟨T, hT⟩ : ∃ T, T = by_ % 3 := ⟨_, rfl⟩
  obtain ⟨M, hM⟩ : ∃ M, M = 3 + mode % 2 := ⟨_, rfl⟩
  obtain ⟨D, hD⟩ : ∃ D : Nat, (D : Int) = 1 + m % 3000 := ⟨(1 + m % 3000).toNat, by have := pk m 3000 (by decide); omega⟩
  have b1 := pk n 20000001 (by decide)
  have b2 := pk scale 4 (by decide)
  have b3 := pk unit 5000 (by decide)
  have b4 := pk by_ 3 (by decide)
  have b5 := pk mode 2 (by decide)
  have b6 := pk m 3000 (by decide)
  have e1 : IntKind.i64.wrap (n % 20000001 - 10000000) = x := by rw [hx]; exact wi64 (by omega) (by omega)
  have e2 : IntKind.i64.wrap (1 + unit % 5000) = (y : Int) := by rw [hy]; exact wi64 (by omega) (by omega)
  have e3 : IntKind.i64.wrap (3 + mode % 2) = M := by rw [hM]; exact wi64 (by omega) (by omega)
  have e4 : IntKind.i64.wrap (1 + m % 3000) = (D : Int) := by rw [hD]; exact wi64 (by omega) (by omega)
  rw [← hS] at b2
  rw [← hT] at b4
  have xs : -10000000 ≤ x ∧ x ≤ 10000000 := by omega
  have ys : 0 < y ∧ y ≤ 5000 := by omega
  have Ds : 0 < D ∧ D ≤ 3000 := by omega
  have Ms : M = 3 ∨ M = 4 := by omega
  clear hx hM b1 b3 b5 b6
  have x30 : x.natAbs < 10 ^ 30 := by omega
  obtain ⟨U, Z, O, V, u30, z30, o30, fB, fT, fK, fO, V9, fC⟩ := units_a (M := M) xs ys b2 b4 Ms
  obtain ⟨Q, P, W, X, Y, q30, p30, w30, X30, Y30, kQ, kP, kW, kM, kC, kT, kE, kZ⟩ := units_b xs b2 Ds
  obtain ⟨J, hJ⟩ : ∃ J : Int, J = if O < 0 then -O else O := ⟨_, rfl⟩
  obtain ⟨L, hL⟩ : ∃ L : Int, L = if W < 0 then -W else W := ⟨_, rfl⟩
  have hJ2 : J = O ∨ J = -O := by rw [hJ]; split <;> simp
  have hL2 : L = W ∨ L = -W := by rw [hL]; split <;> simp
  have k30 : (10 : Nat) ^ 20 < 10 ^ 30 := by decide
  have u31 := Nat.lt_trans u30 k30
  have z31 := Nat.lt_trans z30 k30
  have o31 := Nat.lt_trans o30 k30
  have q31 := Nat.lt_trans q30 k30
  have p31 := Nat.lt_trans p30 k30
  have w31 := Nat.lt_trans w30 k30
  have X31 := Nat.lt_trans X30 k30
  have Y31 := Nat.lt_trans Y30 k30
  have j31 : J.natAbs < 10 ^ 30 := by rcases hJ2 with h | h <;> rw [h] <;> first | exact o31 | (rw [Int.natAbs_neg]; exact o31)
  have l31 : L.natAbs < 10 ^ 30 := by rcases hL2 with h | h <;> rw [h] <;> first | exact w31 | (rw [Int.natAbs_neg]; exact w31)
  have jj31 : (J + J).natAbs < 10 ^ 30 := by
    have : J.natAbs < 10 ^ 20 := by rcases hJ2 with h | h <;> rw [h] <;> first | exact o30 | (rw [Int.natAbs_neg]; exact o30)
    exact dbl_abs this
  have y31 : (y : Int).natAbs < 10 ^ 30 := lt_abs (by omega)
  have D31 : (D : Int).natAbs < 10 ^ 30 := lt_abs (by omega)
  have fN : negF (mkD O V) = mkD (-O) V := negF_mkD o31 V9.1 V9.2
  have fS : signF (mkD O V) = sgI O := sign_mkD o31 V9.1 V9.2
  have fA : addF (mkD J V) (mkD J V) = okD (mkD (J + J) V) := by
    rw [addF_mkD j31 j31 V9.1 V9.2 V9.1 V9.2, show max V V = V from Int.max_self V, Int.sub_self, Int.toNat_zero, Int.pow_zero, Int.mul_one, mkI_ok jj31]
  have kN : negF (mkD W 4) = mkD (-W) 4 := negF_mkD w31 (by decide) (by decide)
  have kS : signF (mkD W 4) = sgI W := sign_mkD w31 (by decide) (by decide)
  have fC := fC J hJ2
  have kC := kC L hL2
  have xw : (mkD x S).c < w128 := mkD_c x30
  have yw : (mkD (y : Int) T).c < w128 := mkD_c y31
  have uw : (mkD U T).c < w128 := mkD_c u31
  have zw : (mkD Z 0).c < w128 := mkD_c z31
  have ow : (mkD O V).c < w128 := mkD_c o31
  have jw : (mkD J V).c < w128 := mkD_c j31
  have jjw : (mkD (J + J) V).c < w128 := mkD_c jj31
  have Dw : (mkD (D : Int) 1).c < w128 := mkD_c D31
  have qw : (mkD Q 3).c < w128 := mkD_c q31
  have pw : (mkD P 4).c < w128 := mkD_c p31
  have ww : (mkD W 4).c < w128 := mkD_c w31
  have lw : (mkD L 4).c < w128 := mkD_c l31
  have dw4 : (mkD (D : Int) 4).c < w128 := mkD_c D31
  have o3w : (mkD 1 3).c < w128 := mkD_c (by decide)
  have tw : (mkD Y 9).c < w128 := mkD_c Y31
  have ew : (mkD X (S + 1)).c < w128 := mkD_c X31
  clear u30 z30 o30 q30 p30 w30 X30 Y30 u31 z31 o31 q31 p31 w31 X31 Y31 j31 l31 jj31 y31 D31 k30 hJ2 hL2
  refine Cw.enterS Try.func6 rfl rfl ?_
  refine Sm.seqW ?_
  conv => whnf
  refine Sm.seqW ?_
  conv => whnf
  refine (pick_spec _ hn (m := 20000001) (by decide) (by decide)).mono ?_
  rintro _ s1 ⟨h1, rfl⟩
  obtain rfl := h1.symm
  conv => whnf
  refine (pick_spec _ hsc (m := 4) (by decide) (by decide)).mono ?_
  rintro _ s1 ⟨h1, rfl⟩
  obtain rfl := h1.symm
  conv => whnf
  rw [e1, ← hS]
  refine hp.call (rof_spec hp.wf (n := x) ⟨by omega, by omega⟩ S) ?_
  clear hp
  rintro _ s rfl hp _
  conv => whnf
  rw [ofD_mk b2.1 (by omega)]
  refine hp.alloc (cs := Dc.zero.cells) (e := 4) rfl rfl rfl rfl rfl ?_
  clear hp
  intro p13 s hp _
  conv => whnf
  refine hp.storeW (vs := (mkD x S).cells) rfl (by repeat (first | exact Rm.here | apply Rm.there)) (by first | exact C2_same _ _ _ _ | exact C4_same _ _ _ _ _ _ _ _ | exact Dc_same _ _ | rfl) rfl rfl rfl ?_
  clear hp
  intro s hp _
  conv => whnf
  refine Sm.live [2, 3, 4, 5, 13] ?_
  conv => whnf
  refine Sm.seqW ?_
  conv => whnf
  refine (pick_spec _ hun (m := 5000) (by decide) (by decide)).mono ?_
  rintro _ s1 ⟨h1, rfl⟩
  obtain rfl := h1.symm
  conv => whnf
  refine (pick_spec _ hby (m := 3) (by decide) (by decide)).mono ?_
  rintro _ s1 ⟨h1, rfl⟩
  obtain rfl := h1.symm
  conv => whnf
  rw [e2, ← hT]
  refine hp.call (rof_spec hp.wf (n := (y : Int)) ⟨by omega, by omega⟩ T) ?_
  clear hp
  rintro _ s rfl hp _
  conv => whnf
  rw [ofD_mk b4.1 (by omega)]
  refine hp.alloc (cs := Dc.zero.cells) (e := 4) rfl rfl rfl rfl rfl ?_
  clear hp
  intro p14 s hp _
  conv => whnf
  refine hp.storeW (vs := (mkD (y : Int) T).cells) rfl (by repeat (first | exact Rm.here | apply Rm.there)) (by first | exact C2_same _ _ _ _ | exact C4_same _ _ _ _ _ _ _ _ | exact Dc_same _ _ | rfl) rfl rfl rfl ?_
  clear hp
  intro s hp _
  conv => whnf
  refine Sm.live [4, 5, 13, 14] ?_
  conv => whnf
  refine Sm.seqW ?_
  conv => whnf
  refine (pick_spec _ hmo (m := 2) (by decide) (by decide)).mono ?_
  rintro _ s1 ⟨h1, rfl⟩
  obtain rfl := h1.symm
  conv => whnf
  rw [e3]
  refine Sm.live [4, 5, 13, 14] ?_
  conv => whnf
  refine Sm.seqW ?_
  conv => whnf
  refine hp.loadA (l := (mkD x S).cells) (by repeat (first | exact Has.here | apply Has.there | (apply Has.swap; repeat (first | exact HasR.here | apply HasR.there)))) rfl (by rfl) rfl rfl ?_
  conv => whnf
  refine hp.loadA (l := (mkD (y : Int) T).cells) (by repeat (first | exact Has.here | apply Has.there | (apply Has.swap; repeat (first | exact HasR.here | apply HasR.there)))) rfl (by rfl) rfl rfl ?_
  conv => whnf
  refine hp.call (unit_spec hp.wf (mkD x S) (mkD (y : Int) T) xw yw M) ?_
  clear hp
  rintro _ s rfl hp _
  conv => whnf
  rw [fB]
  conv => whnf
  refine hp.alloc (cs := Dc.zero.cells) (e := 4) rfl rfl rfl rfl rfl ?_
  clear hp
  intro p15 s hp _
  conv => whnf
  refine hp.storeW (vs := (mkD U T).cells) rfl (by repeat (first | exact Rm.here | apply Rm.there)) (by first | exact C2_same _ _ _ _ | exact C4_same _ _ _ _ _ _ _ _ | exact Dc_same _ _ | rfl) rfl rfl rfl ?_
  clear hp
  intro s hp _
  conv => whnf
  refine Sm.live [4, 13, 14, 15, 16] ?_
  conv => whnf
  refine Sm.seqW ?_
  conv => whnf
  refine hp.loadA (l := (mkD U T).cells) (by repeat (first | exact Has.here | apply Has.there | (apply Has.swap; repeat (first | exact HasR.here | apply HasR.there)))) rfl (by rfl) rfl rfl ?_
  conv => whnf
  refine hp.loadA (l := (mkD (y : Int) T).cells) (by repeat (first | exact Has.here | apply Has.there | (apply Has.swap; repeat (first | exact HasR.here | apply HasR.there)))) rfl (by rfl) rfl rfl ?_
  conv => whnf
  refine hp.call (div_spec hp.wf (mkD U T) (mkD (y : Int) T) uw yw 0 2) ?_
  clear hp
  rintro _ s rfl hp _
  conv => whnf
  rw [fT]
  conv => whnf
  refine hp.alloc (cs := Dc.zero.cells) (e := 4) rfl rfl rfl rfl rfl ?_
  clear hp
  intro p17 s hp _
  conv => whnf
  refine hp.storeW (vs := (mkD Z 0).cells) rfl (by repeat (first | exact Rm.here | apply Rm.there)) (by first | exact C2_same _ _ _ _ | exact C4_same _ _ _ _ _ _ _ _ | exact Dc_same _ _ | rfl) rfl rfl rfl ?_
  clear hp
  intro s hp _
  conv => whnf
  refine Sm.live [4, 13, 14, 15, 16, 17, 18] ?_
  conv => whnf
  refine Sm.seqW ?_
  conv => whnf
  refine hp.loadA (l := (mkD Z 0).cells) (by repeat (first | exact Has.here | apply Has.there | (apply Has.swap; repeat (first | exact HasR.here | apply HasR.there)))) rfl (by rfl) rfl rfl ?_
  conv => whnf
  refine hp.loadA (l := (mkD (y : Int) T).cells) (by repeat (first | exact Has.here | apply Has.there | (apply Has.swap; repeat (first | exact HasR.here | apply HasR.there)))) rfl (by rfl) rfl rfl ?_
  conv => whnf
  refine hp.call (decMul_spec hp.wf (mkD Z 0) (mkD (y : Int) T) zw yw) ?_
  clear hp
  rintro _ s rfl hp _
  conv => whnf
  rw [fK]
  conv => whnf
  refine hp.alloc (cs := Dc.zero.cells) (e := 4) rfl rfl rfl rfl rfl ?_
  clear hp
  intro p19 s hp _
  conv => whnf
  refine hp.storeW (vs := (mkD U T).cells) rfl (by repeat (first | exact Rm.here | apply Rm.there)) (by first | exact C2_same _ _ _ _ | exact C4_same _ _ _ _ _ _ _ _ | exact Dc_same _ _ | rfl) rfl rfl rfl ?_
  clear hp
  intro s hp _
  conv => whnf
  refine Sm.live [4, 13, 14, 15, 16, 18, 19] ?_
  conv => whnf
  refine Sm.seqW ?_
  conv => whnf
  refine hp.loadA (l := (mkD U T).cells) (by repeat (first | exact Has.here | apply Has.there | (apply Has.swap; repeat (first | exact HasR.here | apply HasR.there)))) rfl (by rfl) rfl rfl ?_
  conv => whnf
  refine hp.loadA (l := (mkD x S).cells) (by repeat (first | exact Has.here | apply Has.there | (apply Has.swap; repeat (first | exact HasR.here | apply HasR.there)))) rfl (by rfl) rfl rfl ?_
  conv => whnf
  refine hp.call (decSub_spec hp.wf (mkD U T) (mkD x S) uw xw) ?_
  clear hp
  rintro _ s rfl hp _
  conv => whnf
  rw [fO]
  conv => whnf
  refine hp.alloc (cs := Dc.zero.cells) (e := 4) rfl rfl rfl rfl rfl ?_
  clear hp
  intro p21 s hp _
  conv => whnf
  refine hp.storeW (vs := (mkD O V).cells) rfl (by repeat (first | exact Rm.here | apply Rm.there)) (by first | exact C2_same _ _ _ _ | exact C4_same _ _ _ _ _ _ _ _ | exact Dc_same _ _ | rfl) rfl rfl rfl ?_
  clear hp
  intro s hp _
  conv => whnf
  refine Sm.live [4, 13, 14, 15, 16, 18, 19, 21] ?_
  conv => whnf
  refine Sm.seqC (fun e L' s' => e = .normal ∧ Hp (fun _ => False) s0 [] [blkA p21 p21 (mkD J V).cells 4, blkA p19 p19 (mkD U T).cells 4, blkA p15 p15 (mkD U T).cells 4, blkA p14 p14 (mkD (y : Int) T).cells 4, blkA p13 p13 (mkD x S).cells 4] s' ∧ Sub [(4, .int .i64 m), (13, .pointer (some ⟨p13, 0, none⟩)), (14, .pointer (some ⟨p14, 0, none⟩)), (15, .pointer (some ⟨p15, 0, none⟩)), (16, .int .i64 0), (18, .int .i64 0), (19, .pointer (some ⟨p19, 0, none⟩)), (21, .pointer (some ⟨p21, 0, none⟩))] L') ?_ ?_
  · conv => whnf
    refine hp.loadA (l := (mkD O V).cells) (by repeat (first | exact Has.here | apply Has.there | (apply Has.swap; repeat (first | exact HasR.here | apply HasR.there)))) rfl (by rfl) rfl rfl ?_
    conv => whnf
    refine hp.call (dsign_spec hp.wf (mkD O V) ow) ?_
    clear hp
    rintro _ s rfl hp _
    conv => whnf
    rw [fS]
    have hsg := sgI_cases O
    by_cases h : O < 0
    · refine Br.yes (decide_eq_true (by omega)) ?_
      conv => whnf
      refine hp.loadA (l := (mkD O V).cells) (by repeat (first | exact Has.here | apply Has.there | (apply Has.swap; repeat (first | exact HasR.here | apply HasR.there)))) rfl (by rfl) rfl rfl ?_
      conv => whnf
      refine hp.call (dneg_spec hp.wf (mkD O V) ow) ?_
      clear hp
      rintro _ s rfl hp _
      conv => whnf
      rw [fN, show -O = J by rw [hJ, if_pos h]]
      refine hp.storeW (vs := (mkD J V).cells) rfl (by repeat (first | exact Rm.here | apply Rm.there)) (by first | exact C2_same _ _ _ _ | exact C4_same _ _ _ _ _ _ _ _ | exact Dc_same _ _ | rfl) rfl rfl rfl ?_
      clear hp
      intro s hp _
      conv => whnf
      exact ⟨rfl, hp.pik (by repeat (first | exact Pik.nil | exact Pik.refl _ | exact Rm.here | apply Rm.there | apply Pik.cons | apply Pik.skip)), subK_ok ⟨rfl, rfl, rfl, rfl, rfl, rfl, rfl, rfl, trivial⟩⟩
    · refine Br.no (decide_eq_false (by omega)) ?_
      conv => whnf
      have hj : J = O := by rw [hJ, if_neg h]
      rw [hj]
      exact ⟨rfl, hp.pik (by repeat (first | exact Pik.nil | exact Pik.refl _ | exact Rm.here | apply Rm.there | apply Pik.cons | apply Pik.skip)), subK_ok ⟨rfl, rfl, rfl, rfl, rfl, rfl, rfl, rfl, trivial⟩⟩
  clear hp
  rintro e L' s ⟨rfl, hp, hs⟩
  refine Sm.weak _ hs ?_
  clear hs
  refine Sm.seqW ?_
  conv => whnf
  refine hp.loadA (l := (mkD J V).cells) (by repeat (first | exact Has.here | apply Has.there | (apply Has.swap; repeat (first | exact HasR.here | apply HasR.there)))) rfl (by rfl) rfl rfl ?_
  conv => whnf
  refine hp.loadA (l := (mkD J V).cells) (by repeat (first | exact Has.here | apply Has.there | (apply Has.swap; repeat (first | exact HasR.here | apply HasR.there)))) rfl (by rfl) rfl rfl ?_
  conv => whnf
  refine hp.call (decAdd_spec hp.wf (mkD J V) (mkD J V) jw jw) ?_
  clear hp
  rintro _ s rfl hp _
  conv => whnf
  rw [fA]
  conv => whnf
  refine hp.alloc (cs := Dc.zero.cells) (e := 4) rfl rfl rfl rfl rfl ?_
  clear hp
  intro p23 s hp _
  conv => whnf
  refine hp.storeW (vs := (mkD (J + J) V).cells) rfl (by repeat (first | exact Rm.here | apply Rm.there)) (by first | exact C2_same _ _ _ _ | exact C4_same _ _ _ _ _ _ _ _ | exact Dc_same _ _ | rfl) rfl rfl rfl ?_
  clear hp
  intro s hp _
  conv => whnf
  refine Sm.live [4, 13, 14, 15, 16, 18, 19, 23] ?_
  conv => whnf
  refine Sm.seq ?_
  refine Sm.seqW ?_
  conv => whnf
  refine hp.call ((qknown_spec hp.wf).mono fun r s' ⟨h1, h2⟩ => ⟨h2, h1⟩) ?_
  clear hp
  rintro _ s rfl hp _
  conv => whnf
  repeat (first | (refine Br.yes (by first | with_reducible rfl | with_reducible exact beq_self_eq_true _ | rfl) ?_; conv => whnf) | (refine Br.no (by first | with_reducible rfl | with_reducible exact bne_self_eq_false _ | rfl) ?_; conv => whnf))
  refine hp.load (v := .int .i64 T) (by repeat (first | exact Has.here | apply Has.there | (apply Has.swap; repeat (first | exact HasR.here | apply HasR.there)))) (by rfl) rfl rfl rfl ?_
  conv => whnf
  repeat (first | (refine Br.yes (by first | with_reducible rfl | with_reducible exact beq_self_eq_true _ | rfl) ?_; conv => whnf) | (refine Br.no (by first | with_reducible rfl | with_reducible exact bne_self_eq_false _ | rfl) ?_; conv => whnf))
  refine hp.load (v := .int .i64 T) (by repeat (first | exact Has.here | apply Has.there | (apply Has.swap; repeat (first | exact HasR.here | apply HasR.there)))) (by rfl) rfl rfl rfl ?_
  conv => whnf
  repeat (first | (refine Br.yes (by first | with_reducible rfl | with_reducible exact beq_self_eq_true _ | rfl) ?_; conv => whnf) | (refine Br.no (by first | with_reducible rfl | with_reducible exact bne_self_eq_false _ | rfl) ?_; conv => whnf))
  refine hp.loadA (l := (mkD U T).cells) (by repeat (first | exact Has.here | apply Has.there | (apply Has.swap; repeat (first | exact HasR.here | apply HasR.there)))) rfl (by rfl) rfl rfl ?_
  conv => whnf
  repeat (first | (refine Br.yes (by first | with_reducible rfl | with_reducible exact beq_self_eq_true _ | rfl) ?_; conv => whnf) | (refine Br.no (by first | with_reducible rfl | with_reducible exact bne_self_eq_false _ | rfl) ?_; conv => whnf))
  refine hp.loadA (l := (mkD U T).cells) (by repeat (first | exact Has.here | apply Has.there | (apply Has.swap; repeat (first | exact HasR.here | apply HasR.there)))) rfl (by rfl) rfl rfl ?_
  conv => whnf
  repeat (first | (refine Br.yes (by first | with_reducible rfl | with_reducible exact beq_self_eq_true _ | rfl) ?_; conv => whnf) | (refine Br.no (by first | with_reducible rfl | with_reducible exact bne_self_eq_false _ | rfl) ?_; conv => whnf))
  refine hp.call (decCmp_spec hp.wf (mkD U T) (mkD U T) uw uw) ?_
  clear hp
  rintro _ s rfl hp _
  conv => whnf
  rw [cmpF_self]
  repeat (first | (refine Br.yes (by first | with_reducible rfl | with_reducible exact beq_self_eq_true _ | rfl) ?_; conv => whnf) | (refine Br.no (by first | with_reducible rfl | with_reducible exact bne_self_eq_false _ | rfl) ?_; conv => whnf))
  refine hp.loadA (l := (mkD (J + J) V).cells) (by repeat (first | exact Has.here | apply Has.there | (apply Has.swap; repeat (first | exact HasR.here | apply HasR.there)))) rfl (by rfl) rfl rfl ?_
  conv => whnf
  repeat (first | (refine Br.yes (by first | with_reducible rfl | with_reducible exact beq_self_eq_true _ | rfl) ?_; conv => whnf) | (refine Br.no (by first | with_reducible rfl | with_reducible exact bne_self_eq_false _ | rfl) ?_; conv => whnf))
  refine hp.loadA (l := (mkD (y : Int) T).cells) (by repeat (first | exact Has.here | apply Has.there | (apply Has.swap; repeat (first | exact HasR.here | apply HasR.there)))) rfl (by rfl) rfl rfl ?_
  conv => whnf
  repeat (first | (refine Br.yes (by first | with_reducible rfl | with_reducible exact beq_self_eq_true _ | rfl) ?_; conv => whnf) | (refine Br.no (by first | with_reducible rfl | with_reducible exact bne_self_eq_false _ | rfl) ?_; conv => whnf))
  refine hp.call (decCmp_spec hp.wf (mkD (J + J) V) (mkD (y : Int) T) jjw yw) ?_
  clear hp
  rintro _ s rfl hp _
  conv => whnf
  repeat (first | (refine Br.yes (by first | with_reducible rfl | with_reducible exact beq_self_eq_true _ | rfl) ?_; conv => whnf) | (refine Br.no (by first | with_reducible rfl | with_reducible exact bne_self_eq_false _ | rfl) ?_; conv => whnf))
  refine Sm.live [4, 13, 117] ?_
  conv => whnf
  refine Sm.ofW ?_
  conv => whnf
  refine Br.no (decide_eq_false (by omega)) ?_
  conv => whnf
  refine Sm.seqW ?_
  conv => whnf
  refine (pick_spec _ hm (m := 3000) (by decide) (by decide)).mono ?_
  rintro _ s1 ⟨h1, rfl⟩
  obtain rfl := h1.symm
  conv => whnf
  rw [e4]
  refine hp.call (rof_spec hp.wf (n := (D : Int)) ⟨by omega, by omega⟩ 1) ?_
  clear hp
  rintro _ s rfl hp _
  conv => whnf
  rw [ofD_mk (by decide) (by decide)]
  refine hp.alloc (cs := Dc.zero.cells) (e := 4) rfl rfl rfl rfl rfl ?_
  clear hp
  intro p25 s hp _
  conv => whnf
  refine hp.storeW (vs := (mkD (D : Int) 1).cells) rfl (by repeat (first | exact Rm.here | apply Rm.there)) (by first | exact C2_same _ _ _ _ | exact C4_same _ _ _ _ _ _ _ _ | exact Dc_same _ _ | rfl) rfl rfl rfl ?_
  clear hp
  intro s hp _
  conv => whnf
  refine Sm.live [13, 25] ?_
  conv => whnf
  refine Sm.seqW ?_
  conv => whnf
  refine hp.loadA (l := (mkD x S).cells) (by repeat (first | exact Has.here | apply Has.there | (apply Has.swap; repeat (first | exact HasR.here | apply HasR.there)))) rfl (by rfl) rfl rfl ?_
  conv => whnf
  refine hp.loadA (l := (mkD (D : Int) 1).cells) (by repeat (first | exact Has.here | apply Has.there | (apply Has.swap; repeat (first | exact HasR.here | apply HasR.there)))) rfl (by rfl) rfl rfl ?_
  conv => whnf
  refine hp.call (div_spec hp.wf (mkD x S) (mkD (D : Int) 1) xw Dw 3 0) ?_
  clear hp
  rintro _ s rfl hp _
  conv => whnf
  rw [kQ]
  conv => whnf
  refine hp.alloc (cs := Dc.zero.cells) (e := 4) rfl rfl rfl rfl rfl ?_
  clear hp
  intro p26 s hp _
  conv => whnf
  refine hp.storeW (vs := (mkD Q 3).cells) rfl (by repeat (first | exact Rm.here | apply Rm.there)) (by first | exact C2_same _ _ _ _ | exact C4_same _ _ _ _ _ _ _ _ | exact Dc_same _ _ | rfl) rfl rfl rfl ?_
  clear hp
  intro s hp _
  conv => whnf
  refine Sm.live [13, 25, 26, 27] ?_
  conv => whnf
  refine Sm.seqW ?_
  conv => whnf
  refine hp.loadA (l := (mkD Q 3).cells) (by repeat (first | exact Has.here | apply Has.there | (apply Has.swap; repeat (first | exact HasR.here | apply HasR.there)))) rfl (by rfl) rfl rfl ?_
  conv => whnf
  refine hp.loadA (l := (mkD (D : Int) 1).cells) (by repeat (first | exact Has.here | apply Has.there | (apply Has.swap; repeat (first | exact HasR.here | apply HasR.there)))) rfl (by rfl) rfl rfl ?_
  conv => whnf
  refine hp.call (decMul_spec hp.wf (mkD Q 3) (mkD (D : Int) 1) qw Dw) ?_
  clear hp
  rintro _ s rfl hp _
  conv => whnf
  rw [kP]
  conv => whnf
  refine hp.alloc (cs := Dc.zero.cells) (e := 4) rfl rfl rfl rfl rfl ?_
  clear hp
  intro p28 s hp _
  conv => whnf
  refine hp.storeW (vs := (mkD P 4).cells) rfl (by repeat (first | exact Rm.here | apply Rm.there)) (by first | exact C2_same _ _ _ _ | exact C4_same _ _ _ _ _ _ _ _ | exact Dc_same _ _ | rfl) rfl rfl rfl ?_
  clear hp
  intro s hp _
  conv => whnf
  refine Sm.live [13, 25, 27, 28, 29] ?_
  conv => whnf
  refine Sm.seqW ?_
  conv => whnf
  refine hp.loadA (l := (mkD x S).cells) (by repeat (first | exact Has.here | apply Has.there | (apply Has.swap; repeat (first | exact HasR.here | apply HasR.there)))) rfl (by rfl) rfl rfl ?_
  conv => whnf
  refine hp.loadA (l := (mkD P 4).cells) (by repeat (first | exact Has.here | apply Has.there | (apply Has.swap; repeat (first | exact HasR.here | apply HasR.there)))) rfl (by rfl) rfl rfl ?_
  conv => whnf
  refine hp.call (decSub_spec hp.wf (mkD x S) (mkD P 4) xw pw) ?_
  clear hp
  rintro _ s rfl hp _
  conv => whnf
  rw [kW]
  conv => whnf
  refine hp.alloc (cs := Dc.zero.cells) (e := 4) rfl rfl rfl rfl rfl ?_
  clear hp
  intro p30 s hp _
  conv => whnf
  refine hp.storeW (vs := (mkD W 4).cells) rfl (by repeat (first | exact Rm.here | apply Rm.there)) (by first | exact C2_same _ _ _ _ | exact C4_same _ _ _ _ _ _ _ _ | exact Dc_same _ _ | rfl) rfl rfl rfl ?_
  clear hp
  intro s hp _
  conv => whnf
  refine Sm.live [13, 25, 27, 29, 30] ?_
  conv => whnf
  refine Sm.seqW ?_
  conv => whnf
  refine ⟨[0, 0, 3, 7, 15, 15, 0, 95, 255], by decide +kernel, by decide +kernel, ?_⟩
  conv => whnf
  refine hp.loadA (l := (mkD (D : Int) 1).cells) (by repeat (first | exact Has.here | apply Has.there | (apply Has.swap; repeat (first | exact HasR.here | apply HasR.there)))) rfl (by rfl) rfl rfl ?_
  conv => whnf
  refine hp.rst.call (rof_spec hp.rst.wf (n := 1) (by unfold inR; decide) 3) ?_
  rintro _ s1 rfl h1 k1
  conv => whnf
  refine hp.dkN h1 k1 ?_
  clear hp h1 k1
  intro s hp
  conv => whnf
  rw [ofD_mk (by decide) (by decide)]
  refine hp.rst.call (decMul_spec hp.rst.wf (mkD (D : Int) 1) (mkD 1 3) Dw o3w) ?_
  rintro _ s1 rfl h1 k1
  conv => whnf
  refine hp.dkN h1 k1 ?_
  clear hp h1 k1
  intro s hp
  conv => whnf
  rw [kM]
  conv => whnf
  refine hp.rst.alloc (cs := Dc.zero.cells) (e := 4) rfl rfl rfl rfl rfl ?_
  intro p32 s1 h1 k1
  conv => whnf
  refine hp.dkN h1 k1 ?_
  clear hp h1 k1
  intro s hp
  conv => whnf
  refine hp.rst.storeW (vs := (mkD (D : Int) 4).cells) rfl (by repeat (first | exact Rm.here | apply Rm.there)) (by first | exact C2_same _ _ _ _ | exact C4_same _ _ _ _ _ _ _ _ | exact Dc_same _ _ | rfl) rfl rfl rfl ?_
  intro s1 h1 l1
  conv => whnf
  refine hp.dkW h1 l1 ?_
  clear hp h1 l1
  intro s hp
  conv => whnf
  refine Sm.live [13, 25, 27, 29, 30, 32] ?_
  conv => whnf
  refine Sm.seqC (fun e L' s' => e = .normal ∧ Hp (fun _ => False) s0 [] [blkA p30 p30 (mkD L 4).cells 4, blkA p32 p32 (mkD (D : Int) 4).cells 4, blkA p25 p25 (mkD (D : Int) 1).cells 4, blkA p13 p13 (mkD x S).cells 4] s' ∧ Sub [(13, .pointer (some ⟨p13, 0, none⟩)), (25, .pointer (some ⟨p25, 0, none⟩)), (27, .int .i64 0), (29, .int .i64 0), (30, .pointer (some ⟨p30, 0, none⟩)), (32, .pointer (some ⟨p32, 0, none⟩))] L') ?_ ?_
  · conv => whnf
    refine hp.loadA (l := (mkD W 4).cells) (by repeat (first | exact Has.here | apply Has.there | (apply Has.swap; repeat (first | exact HasR.here | apply HasR.there)))) rfl (by rfl) rfl rfl ?_
    conv => whnf
    refine hp.call (dsign_spec hp.wf (mkD W 4) ww) ?_
    clear hp
    rintro _ s rfl hp _
    conv => whnf
    rw [kS]
    have hsg := sgI_cases W
    by_cases h : W < 0
    · refine Br.yes (decide_eq_true (by omega)) ?_
      conv => whnf
      refine hp.loadA (l := (mkD W 4).cells) (by repeat (first | exact Has.here | apply Has.there | (apply Has.swap; repeat (first | exact HasR.here | apply HasR.there)))) rfl (by rfl) rfl rfl ?_
      conv => whnf
      refine hp.call (dneg_spec hp.wf (mkD W 4) ww) ?_
      clear hp
      rintro _ s rfl hp _
      conv => whnf
      rw [kN, show -W = L by rw [hL, if_pos h]]
      refine hp.storeW (vs := (mkD L 4).cells) rfl (by repeat (first | exact Rm.here | apply Rm.there)) (by first | exact C2_same _ _ _ _ | exact C4_same _ _ _ _ _ _ _ _ | exact Dc_same _ _ | rfl) rfl rfl rfl ?_
      clear hp
      intro s hp _
      conv => whnf
      exact ⟨rfl, hp.pik (by repeat (first | exact Pik.nil | exact Pik.refl _ | exact Rm.here | apply Rm.there | apply Pik.cons | apply Pik.skip)), subK_ok ⟨rfl, rfl, rfl, rfl, rfl, rfl, trivial⟩⟩
    · refine Br.no (decide_eq_false (by omega)) ?_
      conv => whnf
      have hj : L = W := by rw [hL, if_neg h]
      rw [hj]
      exact ⟨rfl, hp.pik (by repeat (first | exact Pik.nil | exact Pik.refl _ | exact Rm.here | apply Rm.there | apply Pik.cons | apply Pik.skip)), subK_ok ⟨rfl, rfl, rfl, rfl, rfl, rfl, trivial⟩⟩
  clear hp
  rintro e L' s ⟨rfl, hp, hs⟩
  refine Sm.weak _ hs ?_
  clear hs
  refine Sm.seqW ?_
  conv => whnf
  refine hp.loadA (l := (mkD x S).cells) (by repeat (first | exact Has.here | apply Has.there | (apply Has.swap; repeat (first | exact HasR.here | apply HasR.there)))) rfl (by rfl) rfl rfl ?_
  conv => whnf
  refine hp.loadA (l := (mkD (D : Int) 1).cells) (by repeat (first | exact Has.here | apply Has.there | (apply Has.swap; repeat (first | exact HasR.here | apply HasR.there)))) rfl (by rfl) rfl rfl ?_
  conv => whnf
  refine hp.call (times_spec hp.wf (mkD x S) (mkD (D : Int) 1) xw Dw 9 0) ?_
  clear hp
  rintro _ s rfl hp _
  conv => whnf
  rw [kT]
  conv => whnf
  refine hp.alloc (cs := Dc.zero.cells) (e := 4) rfl rfl rfl rfl rfl ?_
  clear hp
  intro p34 s hp _
  conv => whnf
  refine hp.storeW (vs := (mkD Y 9).cells) rfl (by repeat (first | exact Rm.here | apply Rm.there)) (by first | exact C2_same _ _ _ _ | exact C4_same _ _ _ _ _ _ _ _ | exact Dc_same _ _ | rfl) rfl rfl rfl ?_
  clear hp
  intro s hp _
  conv => whnf
  refine Sm.live [13, 25, 27, 29, 30, 32, 34, 35] ?_
  conv => whnf
  refine Sm.seqW ?_
  conv => whnf
  refine hp.loadA (l := (mkD x S).cells) (by repeat (first | exact Has.here | apply Has.there | (apply Has.swap; repeat (first | exact HasR.here | apply HasR.there)))) rfl (by rfl) rfl rfl ?_
  conv => whnf
  refine hp.loadA (l := (mkD (D : Int) 1).cells) (by repeat (first | exact Has.here | apply Has.there | (apply Has.swap; repeat (first | exact HasR.here | apply HasR.there)))) rfl (by rfl) rfl rfl ?_
  conv => whnf
  refine hp.call (decMul_spec hp.wf (mkD x S) (mkD (D : Int) 1) xw Dw) ?_
  clear hp
  rintro _ s rfl hp _
  conv => whnf
  rw [kE]
  conv => whnf
  refine hp.alloc (cs := Dc.zero.cells) (e := 4) rfl rfl rfl rfl rfl ?_
  clear hp
  intro p36 s hp _
  conv => whnf
  refine hp.storeW (vs := (mkD X (S + 1)).cells) rfl (by repeat (first | exact Rm.here | apply Rm.there)) (by first | exact C2_same _ _ _ _ | exact C4_same _ _ _ _ _ _ _ _ | exact Dc_same _ _ | rfl) rfl rfl rfl ?_
  clear hp
  intro s hp _
  conv => whnf
  refine Sm.live [27, 29, 30, 32, 34, 35, 36] ?_
  conv => whnf
  refine Sm.seqW ?_
  conv => whnf
  repeat (first | (refine Br.yes (by first | with_reducible rfl | with_reducible exact beq_self_eq_true _ | rfl) ?_; conv => whnf) | (refine Br.no (by first | with_reducible rfl | with_reducible exact bne_self_eq_false _ | rfl) ?_; conv => whnf))
  refine hp.loadA (l := (mkD L 4).cells) (by repeat (first | exact Has.here | apply Has.there | (apply Has.swap; repeat (first | exact HasR.here | apply HasR.there)))) rfl (by rfl) rfl rfl ?_
  conv => whnf
  repeat (first | (refine Br.yes (by first | with_reducible rfl | with_reducible exact beq_self_eq_true _ | rfl) ?_; conv => whnf) | (refine Br.no (by first | with_reducible rfl | with_reducible exact bne_self_eq_false _ | rfl) ?_; conv => whnf))
  refine hp.loadA (l := (mkD (D : Int) 4).cells) (by repeat (first | exact Has.here | apply Has.there | (apply Has.swap; repeat (first | exact HasR.here | apply HasR.there)))) rfl (by rfl) rfl rfl ?_
  conv => whnf
  repeat (first | (refine Br.yes (by first | with_reducible rfl | with_reducible exact beq_self_eq_true _ | rfl) ?_; conv => whnf) | (refine Br.no (by first | with_reducible rfl | with_reducible exact bne_self_eq_false _ | rfl) ?_; conv => whnf))
  refine hp.call (decCmp_spec hp.wf (mkD L 4) (mkD (D : Int) 4) lw dw4) ?_
  clear hp
  rintro _ s rfl hp _
  conv => whnf
  rw [kC]
  repeat (first | (refine Br.yes (by first | with_reducible rfl | with_reducible exact beq_self_eq_true _ | rfl) ?_; conv => whnf) | (refine Br.no (by first | with_reducible rfl | with_reducible exact bne_self_eq_false _ | rfl) ?_; conv => whnf))
  refine hp.loadA (l := (mkD Y 9).cells) (by repeat (first | exact Has.here | apply Has.there | (apply Has.swap; repeat (first | exact HasR.here | apply HasR.there)))) rfl (by rfl) rfl rfl ?_
  conv => whnf
  repeat (first | (refine Br.yes (by first | with_reducible rfl | with_reducible exact beq_self_eq_true _ | rfl) ?_; conv => whnf) | (refine Br.no (by first | with_reducible rfl | with_reducible exact bne_self_eq_false _ | rfl) ?_; conv => whnf))
  refine hp.loadA (l := (mkD X (S + 1)).cells) (by repeat (first | exact Has.here | apply Has.there | (apply Has.swap; repeat (first | exact HasR.here | apply HasR.there)))) rfl (by rfl) rfl rfl ?_
  conv => whnf
  repeat (first | (refine Br.yes (by first | with_reducible rfl | with_reducible exact beq_self_eq_true _ | rfl) ?_; conv => whnf) | (refine Br.no (by first | with_reducible rfl | with_reducible exact bne_self_eq_false _ | rfl) ?_; conv => whnf))
  refine hp.call (decCmp_spec hp.wf (mkD Y 9) (mkD X (S + 1)) tw ew) ?_
  clear hp
  rintro _ s rfl hp _
  conv => whnf
  rw [kZ]
  repeat (first | (refine Br.yes (by first | with_reducible rfl | with_reducible exact beq_self_eq_true _ | rfl) ?_; conv => whnf) | (refine Br.no (by first | with_reducible rfl | with_reducible exact bne_self_eq_false _ | rfl) ?_; conv => whnf))
  refine Sm.ofW ?_
  conv => whnf
  exact ⟨rfl⟩
end Go.Ev
end
