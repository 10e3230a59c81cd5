/- Several texts in one: what the law's text leans on, one behind the other. No condition but those that each theorem names. -/
import Derived.Test.YtcjonnndpkohoaaGQuantTells2
/- QuantTells walked. No condition. -/
noncomputable section
namespace Go.Ev
open Go.Proofs
set_option linter.unusedVariables false
set_option maxRecDepth 100000

theorem quantTells_walk {s0 : St} (wf : WF s0) {n scale bend m other twist to mode : Int} (hn : inR n) (hsc : inR scale) (hbe : inR bend) (hm : inR m) (hot : inR other) (htw : inR twist) (hto : inR to) (hmo : inR mode) :
    Cw Try.prog 4 [.int .i64 n, .int .i64 scale, .int .i64 bend, .int .i64 m, .int .i64 other, .int .i64 twist, .int .i64 to, .int .i64 mode] s0 fun r _ => r = .bool true := by
  have hp : Hp (fun _ => False) s0 [] [] s0 := Hp.start _ wf _ (by simp)
  have b1 := Int.emod_nonneg to (show (13 : Int) ≠ 0 by decide)
  have b2 := Int.emod_lt_of_pos to (show (0 : Int) < 13 by decide)
  have b3 := Int.emod_nonneg mode (show (7 : Int) ≠ 0 by decide)
  have b4 := Int.emod_lt_of_pos mode (show (0 : Int) < 7 by decide)
  have e1 : IntKind.i64.wrap (to % 13 - 2) = to % 13 - 2 := wi64 (by omega) (by omega)
  have e2 : IntKind.i64.wrap (mode % 7 - 1) = mode % 7 - 1 := wi64 (by omega) (by omega)
  refine Cw.enterS Try.func4 rfl rfl ?_
  refine Sm.seqW ?_
  conv => whnf
  refine Sm.live [0, 1, 2, 3, 4, 5, 6, 7] ?_
  conv => whnf
  refine Sm.seqW ?_
  conv => whnf
  refine hp.call (hdec_spec hp.wf hn hsc hbe) ?_
  clear hp
  rintro _ s ⟨a, aw, asc, rfl⟩ hp _
  conv => whnf
  refine hp.alloc (cs := Dc.zero.cells) (e := 4) rfl rfl rfl rfl rfl ?_
  clear hp
  intro p17 s hp _
  conv => whnf
  refine hp.storeW (vs := a.cells) rfl (by repeat (first | exact Rm.here | apply Rm.there)) (by rfl) rfl rfl rfl ?_
  clear hp
  intro s hp _
  conv => whnf
  refine Sm.live [3, 4, 5, 6, 7, 17] ?_
  conv => whnf
  refine Sm.seqW ?_
  conv => whnf
  refine hp.call (hdec_spec hp.wf hm hot htw) ?_
  clear hp
  rintro _ s ⟨b, bw, bsc, rfl⟩ hp _
  conv => whnf
  refine hp.alloc (cs := Dc.zero.cells) (e := 4) rfl rfl rfl rfl rfl ?_
  clear hp
  intro p18 s hp _
  conv => whnf
  refine hp.storeW (vs := b.cells) rfl (by repeat (first | exact Rm.here | apply Rm.there)) (by rfl) rfl rfl rfl ?_
  clear hp
  intro s hp _
  conv => whnf
  refine Sm.live [6, 7, 17, 18] ?_
  conv => whnf
  refine Sm.seqW ?_
  conv => whnf
  refine (pick_spec _ hto (m := 13) (by decide) (by decide)).mono ?_
  rintro _ s1 ⟨h1, rfl⟩
  obtain rfl := h1.symm
  conv => whnf
  rw [e1]
  generalize to % 13 - 2 = T
  refine Sm.live [6, 7, 17, 18] ?_
  conv => whnf
  refine Sm.seqW ?_
  conv => whnf
  refine (pick_spec _ hmo (m := 7) (by decide) (by decide)).mono ?_
  rintro _ s1 ⟨h1, rfl⟩
  obtain rfl := h1.symm
  conv => whnf
  rw [e2]
  generalize mode % 7 - 1 = M
  refine Sm.live [6, 7, 17, 18] ?_
  conv => whnf
  obtain ⟨q, qe, hqx⟩ := quantF_shape a T M
  obtain ⟨d, de, hdx⟩ := divF_shape a b T M
  obtain ⟨t, te, htx⟩ := timesF_shape a b T M
  obtain ⟨u, ue, hux⟩ := unitF_shape a b M
  refine Sm.seqW ?_
  conv => whnf
  refine hp.loadA (l := a.cells) (by repeat (first | exact Has.here | apply Has.there | (apply Has.swap; repeat (first | exact HasR.here | apply HasR.there)))) rfl (by rfl) rfl rfl ?_
  conv => whnf
  refine hp.call (quant_spec hp.wf a aw T M) ?_
  clear hp
  rintro _ s rfl hp _
  conv => whnf
  rw [hqx]
  conv => whnf
  refine hp.alloc (cs := Dc.zero.cells) (e := 4) rfl rfl rfl rfl rfl ?_
  clear hp
  intro p19 s hp _
  conv => whnf
  refine hp.storeW (vs := q.cells) rfl (by repeat (first | exact Rm.here | apply Rm.there)) (by rfl) rfl rfl rfl ?_
  clear hp
  intro s hp _
  conv => whnf
  refine Sm.live [6, 7, 17, 18, 19, 20] ?_
  conv => whnf
  refine Sm.seqW ?_
  conv => whnf
  refine hp.loadA (l := a.cells) (by repeat (first | exact Has.here | apply Has.there | (apply Has.swap; repeat (first | exact HasR.here | apply HasR.there)))) rfl (by rfl) rfl rfl ?_
  conv => whnf
  refine hp.loadA (l := b.cells) (by repeat (first | exact Has.here | apply Has.there | (apply Has.swap; repeat (first | exact HasR.here | apply HasR.there)))) rfl (by rfl) rfl rfl ?_
  conv => whnf
  refine hp.call (div_spec hp.wf a b aw bw T M) ?_
  clear hp
  rintro _ s rfl hp _
  conv => whnf
  rw [hdx]
  conv => whnf
  refine hp.alloc (cs := Dc.zero.cells) (e := 4) rfl rfl rfl rfl rfl ?_
  clear hp
  intro p21 s hp _
  conv => whnf
  refine hp.storeW (vs := d.cells) rfl (by repeat (first | exact Rm.here | apply Rm.there)) (by rfl) rfl rfl rfl ?_
  clear hp
  intro s hp _
  conv => whnf
  refine Sm.live [6, 7, 17, 18, 19, 20, 21, 22] ?_
  conv => whnf
  refine Sm.seqW ?_
  conv => whnf
  refine hp.loadA (l := a.cells) (by repeat (first | exact Has.here | apply Has.there | (apply Has.swap; repeat (first | exact HasR.here | apply HasR.there)))) rfl (by rfl) rfl rfl ?_
  conv => whnf
  refine hp.loadA (l := b.cells) (by repeat (first | exact Has.here | apply Has.there | (apply Has.swap; repeat (first | exact HasR.here | apply HasR.there)))) rfl (by rfl) rfl rfl ?_
  conv => whnf
  refine hp.call (times_spec hp.wf a b aw bw T M) ?_
  clear hp
  rintro _ s rfl hp _
  conv => whnf
  rw [htx]
  conv => whnf
  refine hp.alloc (cs := Dc.zero.cells) (e := 4) rfl rfl rfl rfl rfl ?_
  clear hp
  intro p23 s hp _
  conv => whnf
  refine hp.storeW (vs := t.cells) rfl (by repeat (first | exact Rm.here | apply Rm.there)) (by rfl) rfl rfl rfl ?_
  clear hp
  intro s hp _
  conv => whnf
  refine Sm.live [6, 7, 17, 18, 19, 20, 21, 22, 23, 24] ?_
  conv => whnf
  refine Sm.seqW ?_
  conv => whnf
  refine hp.loadA (l := a.cells) (by repeat (first | exact Has.here | apply Has.there | (apply Has.swap; repeat (first | exact HasR.here | apply HasR.there)))) rfl (by rfl) rfl rfl ?_
  conv => whnf
  refine hp.loadA (l := b.cells) (by repeat (first | exact Has.here | apply Has.there | (apply Has.swap; repeat (first | exact HasR.here | apply HasR.there)))) rfl (by rfl) rfl rfl ?_
  conv => whnf
  refine hp.call (unit_spec hp.wf a b aw bw M) ?_
  clear hp
  rintro _ s rfl hp _
  conv => whnf
  rw [hux]
  conv => whnf
  refine hp.alloc (cs := Dc.zero.cells) (e := 4) rfl rfl rfl rfl rfl ?_
  clear hp
  intro p25 s hp _
  conv => whnf
  refine hp.storeW (vs := u.cells) rfl (by repeat (first | exact Rm.here | apply Rm.there)) (by rfl) rfl rfl rfl ?_
  clear hp
  intro s hp _
  conv => whnf
  refine Sm.live [6, 7, 17, 18, 19, 20, 21, 22, 23, 24, 25, 26] ?_
  conv => whnf
  refine Sm.seqW ?_
  conv => whnf
  refine hp.loadA (l := a.cells) (by repeat (first | exact Has.here | apply Has.there | (apply Has.swap; repeat (first | exact HasR.here | apply HasR.there)))) rfl (by rfl) rfl rfl ?_
  conv => whnf
  refine hp.call (rquant_spec hp.wf a aw T M) ?_
  clear hp
  rintro _ s rfl hp _
  conv => whnf
  rw [hqx]
  conv => whnf
  refine hp.alloc (cs := Dc.zero.cells) (e := 4) rfl rfl rfl rfl rfl ?_
  clear hp
  intro p27 s hp _
  conv => whnf
  refine hp.storeW (vs := q.cells) rfl (by repeat (first | exact Rm.here | apply Rm.there)) (by rfl) rfl rfl rfl ?_
  clear hp
  intro s hp _
  conv => whnf
  refine Sm.live [6, 7, 17, 18, 19, 20, 21, 22, 23, 24, 25, 26, 27, 28] ?_
  conv => whnf
  refine Sm.seqW ?_
  conv => whnf
  refine hp.loadA (l := a.cells) (by repeat (first | exact Has.here | apply Has.there | (apply Has.swap; repeat (first | exact HasR.here | apply HasR.there)))) rfl (by rfl) rfl rfl ?_
  conv => whnf
  refine hp.loadA (l := b.cells) (by repeat (first | exact Has.here | apply Has.there | (apply Has.swap; repeat (first | exact HasR.here | apply HasR.there)))) rfl (by rfl) rfl rfl ?_
  conv => whnf
  refine hp.call (rdiv_spec hp.wf a b aw bw T M) ?_
  clear hp
  rintro _ s rfl hp _
  conv => whnf
  rw [hdx]
  conv => whnf
  refine hp.alloc (cs := Dc.zero.cells) (e := 4) rfl rfl rfl rfl rfl ?_
  clear hp
  intro p29 s hp _
  conv => whnf
  refine hp.storeW (vs := d.cells) rfl (by repeat (first | exact Rm.here | apply Rm.there)) (by rfl) rfl rfl rfl ?_
  clear hp
  intro s hp _
  conv => whnf
  refine Sm.live [6, 7, 17, 18, 19, 20, 21, 22, 23, 24, 25, 26, 27, 28, 29, 30] ?_
  conv => whnf
  refine Sm.seqW ?_
  conv => whnf
  refine hp.loadA (l := a.cells) (by repeat (first | exact Has.here | apply Has.there | (apply Has.swap; repeat (first | exact HasR.here | apply HasR.there)))) rfl (by rfl) rfl rfl ?_
  conv => whnf
  refine hp.loadA (l := b.cells) (by repeat (first | exact Has.here | apply Has.there | (apply Has.swap; repeat (first | exact HasR.here | apply HasR.there)))) rfl (by rfl) rfl rfl ?_
  conv => whnf
  refine hp.call (rtimes_spec hp.wf a b aw bw T M) ?_
  clear hp
  rintro _ s rfl hp _
  conv => whnf
  rw [htx]
  conv => whnf
  refine hp.alloc (cs := Dc.zero.cells) (e := 4) rfl rfl rfl rfl rfl ?_
  clear hp
  intro p31 s hp _
  conv => whnf
  refine hp.storeW (vs := t.cells) rfl (by repeat (first | exact Rm.here | apply Rm.there)) (by rfl) rfl rfl rfl ?_
  clear hp
  intro s hp _
  conv => whnf
  refine Sm.live [7, 17, 18, 19, 20, 21, 22, 23, 24, 25, 26, 27, 28, 29, 30, 31, 32] ?_
  conv => whnf
  refine Sm.seqW ?_
  conv => whnf
  refine hp.loadA (l := a.cells) (by repeat (first | exact Has.here | apply Has.there | (apply Has.swap; repeat (first | exact HasR.here | apply HasR.there)))) rfl (by rfl) rfl rfl ?_
  conv => whnf
  refine hp.loadA (l := b.cells) (by repeat (first | exact Has.here | apply Has.there | (apply Has.swap; repeat (first | exact HasR.here | apply HasR.there)))) rfl (by rfl) rfl rfl ?_
  conv => whnf
  refine hp.call (runit_spec hp.wf a b aw bw M) ?_
  clear hp
  rintro _ s rfl hp _
  conv => whnf
  rw [hux]
  conv => whnf
  refine hp.alloc (cs := Dc.zero.cells) (e := 4) rfl rfl rfl rfl rfl ?_
  clear hp
  intro p33 s hp _
  conv => whnf
  refine hp.storeW (vs := u.cells) rfl (by repeat (first | exact Rm.here | apply Rm.there)) (by rfl) rfl rfl rfl ?_
  clear hp
  intro s hp _
  conv => whnf
  refine Sm.live [19, 20, 21, 22, 23, 24, 25, 26, 27, 28, 29, 30, 31, 32, 33, 34] ?_
  conv => whnf
  refine Sm.seqW ?_
  conv => whnf
  refine hp.call ((qknown_spec hp.wf).mono fun r s' ⟨h1, h2⟩ => ⟨h2, h1⟩) ?_
  clear hp
  rintro _ s rfl hp _
  conv => whnf
  repeat (first | (refine Br.yes (by first | with_reducible rfl | with_reducible exact beq_self_eq_true _ | rfl) ?_; conv => whnf) | (refine Br.no (by first | with_reducible rfl | rfl) ?_; conv => whnf))
  refine hp.loadA (l := q.cells) (by repeat (first | exact Has.here | apply Has.there | (apply Has.swap; repeat (first | exact HasR.here | apply HasR.there)))) rfl (by rfl) rfl rfl ?_
  conv => whnf
  repeat (first | (refine Br.yes (by first | with_reducible rfl | with_reducible exact beq_self_eq_true _ | rfl) ?_; conv => whnf) | (refine Br.no (by first | with_reducible rfl | rfl) ?_; conv => whnf))
  refine hp.loadA (l := q.cells) (by repeat (first | exact Has.here | apply Has.there | (apply Has.swap; repeat (first | exact HasR.here | apply HasR.there)))) rfl (by rfl) rfl rfl ?_
  conv => whnf
  repeat (first | (refine Br.yes (by first | with_reducible rfl | with_reducible exact beq_self_eq_true _ | rfl) ?_; conv => whnf) | (refine Br.no (by first | with_reducible rfl | rfl) ?_; conv => whnf))
  refine Om.of _ (dcv_eq q _) ?_
  conv => whnf
  repeat (first | (refine Br.yes (by first | with_reducible rfl | with_reducible exact beq_self_eq_true _ | rfl) ?_; conv => whnf) | (refine Br.no (by first | with_reducible rfl | rfl) ?_; conv => whnf))
  refine hp.loadA (l := d.cells) (by repeat (first | exact Has.here | apply Has.there | (apply Has.swap; repeat (first | exact HasR.here | apply HasR.there)))) rfl (by rfl) rfl rfl ?_
  conv => whnf
  repeat (first | (refine Br.yes (by first | with_reducible rfl | with_reducible exact beq_self_eq_true _ | rfl) ?_; conv => whnf) | (refine Br.no (by first | with_reducible rfl | rfl) ?_; conv => whnf))
  refine hp.loadA (l := d.cells) (by repeat (first | exact Has.here | apply Has.there | (apply Has.swap; repeat (first | exact HasR.here | apply HasR.there)))) rfl (by rfl) rfl rfl ?_
  conv => whnf
  repeat (first | (refine Br.yes (by first | with_reducible rfl | with_reducible exact beq_self_eq_true _ | rfl) ?_; conv => whnf) | (refine Br.no (by first | with_reducible rfl | rfl) ?_; conv => whnf))
  refine Om.of _ (dcv_eq d _) ?_
  conv => whnf
  repeat (first | (refine Br.yes (by first | with_reducible rfl | with_reducible exact beq_self_eq_true _ | rfl) ?_; conv => whnf) | (refine Br.no (by first | with_reducible rfl | rfl) ?_; conv => whnf))
  refine hp.loadA (l := t.cells) (by repeat (first | exact Has.here | apply Has.there | (apply Has.swap; repeat (first | exact HasR.here | apply HasR.there)))) rfl (by rfl) rfl rfl ?_
  conv => whnf
  repeat (first | (refine Br.yes (by first | with_reducible rfl | with_reducible exact beq_self_eq_true _ | rfl) ?_; conv => whnf) | (refine Br.no (by first | with_reducible rfl | rfl) ?_; conv => whnf))
  refine hp.loadA (l := t.cells) (by repeat (first | exact Has.here | apply Has.there | (apply Has.swap; repeat (first | exact HasR.here | apply HasR.there)))) rfl (by rfl) rfl rfl ?_
  conv => whnf
  repeat (first | (refine Br.yes (by first | with_reducible rfl | with_reducible exact beq_self_eq_true _ | rfl) ?_; conv => whnf) | (refine Br.no (by first | with_reducible rfl | rfl) ?_; conv => whnf))
  refine Om.of _ (dcv_eq t _) ?_
  conv => whnf
  repeat (first | (refine Br.yes (by first | with_reducible rfl | with_reducible exact beq_self_eq_true _ | rfl) ?_; conv => whnf) | (refine Br.no (by first | with_reducible rfl | rfl) ?_; conv => whnf))
  refine hp.loadA (l := u.cells) (by repeat (first | exact Has.here | apply Has.there | (apply Has.swap; repeat (first | exact HasR.here | apply HasR.there)))) rfl (by rfl) rfl rfl ?_
  conv => whnf
  repeat (first | (refine Br.yes (by first | with_reducible rfl | with_reducible exact beq_self_eq_true _ | rfl) ?_; conv => whnf) | (refine Br.no (by first | with_reducible rfl | rfl) ?_; conv => whnf))
  refine hp.loadA (l := u.cells) (by repeat (first | exact Has.here | apply Has.there | (apply Has.swap; repeat (first | exact HasR.here | apply HasR.there)))) rfl (by rfl) rfl rfl ?_
  conv => whnf
  repeat (first | (refine Br.yes (by first | with_reducible rfl | with_reducible exact beq_self_eq_true _ | rfl) ?_; conv => whnf) | (refine Br.no (by first | with_reducible rfl | rfl) ?_; conv => whnf))
  refine Om.of _ (dcv_eq u _) ?_
  conv => whnf
  repeat (first | (refine Br.yes (by first | with_reducible rfl | with_reducible exact beq_self_eq_true _ | rfl) ?_; conv => whnf) | (refine Br.no (by first | with_reducible rfl | rfl) ?_; conv => whnf))
  refine Sm.ofW ?_
  conv => whnf
  exact ⟨congrArg Value.bool (beq_self_eq_true ue)⟩
end Go.Ev
end
