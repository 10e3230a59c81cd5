/- Several texts in one: what the law's text leans on, one behind the other. No condition but those that each theorem names. -/
import Derived.Test.YtcjonnndpkohoaaDoorGDecTells2
/- dec.Cmp, Add, Sub, Mul walked. No condition. -/
noncomputable section
namespace Go.Ev
open Go.Proofs
set_option linter.unusedVariables false
set_option maxRecDepth 100000

theorem cmpI_cases (x y : Nat) : cmpI x y = -1 ∨ cmpI x y = 0 ∨ cmpI x y = 1 := by
  unfold cmpI
  split
  · exact .inl rfl
  · split
    · exact .inr (.inl rfl)
    · exact .inr (.inr rfl)
theorem wide_at {z : St} (wf : WF z) {d : Dc} (hd : d.c < w128) (hr : d.right = true) {S : Int} (h1 : d.scale ≤ S) (h2 : S ≤ 9) :
    Cw Tryd.prog 54 [d.val, .int .i64 S] z fun r s' => K0 z s' ∧ r = W4 (d.c * 10 ^ (S - d.scale).toNat) := by
  obtain ⟨g1, g2, g3⟩ := Dc.right_c hr
  exact dwide_spec wf d hd (k := (S - d.scale).toNat) (by omega) (by omega) ⟨by omega, by omega⟩
theorem decCmp_spec {z : St} (wf : WF z) (a b : Dc) (ha : a.c < w128) (hb : b.c < w128) : Cw Tryd.prog 17 [a.val, b.val] z fun r s' => K0 z s' ∧ r = .int .i64 (cmpF a b) := by
  have hp : Hp (fun _ => False) z [] [] z := Hp.start _ wf _ (by simp)
  refine Cw.enterS Tryd.func17 rfl rfl ?_
  refine Sm.seqW ?_
  conv => whnf
  refine hp.var (cs := a.cells) (e := 4) rfl rfl ?_
  clear hp
  intro p2 s hp _
  conv => whnf
  refine hp.var (cs := b.cells) (e := 4) rfl rfl ?_
  clear hp
  intro p3 s hp _
  conv => whnf
  refine Sm.live [2, 3] ?_
  conv => whnf
  refine Sm.seq ?_
  refine Sm.seqW ?_
  conv => whnf
  refine hp.loadA (l := a.cells) (by repeat (first | exact Has.here | apply Has.there | (apply Has.swap; repeat (first | exact HasR.here | apply HasR.there)))) rfl (by rfl) rfl rfl ?_
  conv => whnf
  refine hp.call (right_spec hp.wf a ha) ?_
  clear hp
  rintro _ s rfl hp _
  conv => whnf
  cases hr : a.right with
  | false =>
    repeat (first | (refine Br.yes (by first | with_reducible rfl | with_reducible exact beq_self_eq_true _ | rfl) ?_; conv => whnf) | (refine Br.no (by first | with_reducible rfl | with_reducible exact bne_self_eq_false _ | rfl) ?_; conv => whnf))
    refine Sm.ofW ?_
    conv => whnf
    repeat (first | (refine Br.yes (by first | with_reducible rfl | with_reducible exact beq_self_eq_true _ | rfl) ?_; conv => whnf) | (refine Br.no (by first | with_reducible rfl | with_reducible exact bne_self_eq_false _ | rfl) ?_; conv => whnf))
    exact ⟨hp.fr, congrArg (Value.int .i64) (by unfold cmpF; rw [if_pos (.inl hr)])⟩
  | true =>
    repeat (first | (refine Br.yes (by first | with_reducible rfl | with_reducible exact beq_self_eq_true _ | rfl) ?_; conv => whnf) | (refine Br.no (by first | with_reducible rfl | with_reducible exact bne_self_eq_false _ | rfl) ?_; conv => whnf))
    refine hp.loadA (l := b.cells) (by repeat (first | exact Has.here | apply Has.there | (apply Has.swap; repeat (first | exact HasR.here | apply HasR.there)))) rfl (by rfl) rfl rfl ?_
    conv => whnf
    repeat (first | (refine Br.yes (by first | with_reducible rfl | with_reducible exact beq_self_eq_true _ | rfl) ?_; conv => whnf) | (refine Br.no (by first | with_reducible rfl | with_reducible exact bne_self_eq_false _ | rfl) ?_; conv => whnf))
    refine hp.call (right_spec hp.wf b hb) ?_
    clear hp
    rintro _ s rfl hp _
    conv => whnf
    cases hrb : b.right with
    | false =>
      repeat (first | (refine Br.yes (by first | with_reducible rfl | with_reducible exact beq_self_eq_true _ | rfl) ?_; conv => whnf) | (refine Br.no (by first | with_reducible rfl | with_reducible exact bne_self_eq_false _ | rfl) ?_; conv => whnf))
      refine Sm.ofW ?_
      conv => whnf
      repeat (first | (refine Br.yes (by first | with_reducible rfl | with_reducible exact beq_self_eq_true _ | rfl) ?_; conv => whnf) | (refine Br.no (by first | with_reducible rfl | with_reducible exact bne_self_eq_false _ | rfl) ?_; conv => whnf))
      exact ⟨hp.fr, congrArg (Value.int .i64) (by unfold cmpF; rw [if_pos (.inr hrb)])⟩
    | true =>
      obtain ⟨a1, a2, a3⟩ := Dc.right_c hr
      obtain ⟨b1, b2, b3⟩ := Dc.right_c hrb
      repeat (first | (refine Br.yes (by first | with_reducible rfl | with_reducible exact beq_self_eq_true _ | rfl) ?_; conv => whnf) | (refine Br.no (by first | with_reducible rfl | with_reducible exact bne_self_eq_false _ | rfl) ?_; conv => whnf))
      refine Sm.ofW ?_
      conv => whnf
      repeat (first | (refine Br.yes (by first | with_reducible rfl | with_reducible exact beq_self_eq_true _ | rfl) ?_; conv => whnf) | (refine Br.no (by first | with_reducible rfl | with_reducible exact bne_self_eq_false _ | rfl) ?_; conv => whnf))
      refine Sm.seqW ?_
      conv => whnf
      refine ⟨[0, 1, 0, 7, 15, 31], by decide +kernel, by decide +kernel, ?_⟩
      conv => whnf
      refine hp.loadA (l := a.cells) (by repeat (first | exact Has.here | apply Has.there | (apply Has.swap; repeat (first | exact HasR.here | apply HasR.there)))) rfl (by rfl) rfl rfl ?_
      conv => whnf
      refine hp.rst.call (dsign_spec hp.rst.wf a ha) ?_
      rintro _ s1 rfl h1 k1
      conv => whnf
      refine hp.dkN h1 k1 ?_
      clear hp h1 k1
      intro s hp
      conv => whnf
      refine hp.loadA (l := b.cells) (by repeat (first | exact Has.here | apply Has.there | (apply Has.swap; repeat (first | exact HasR.here | apply HasR.there)))) rfl (by rfl) rfl rfl ?_
      conv => whnf
      refine hp.rst.call (dsign_spec hp.rst.wf b hb) ?_
      rintro _ s1 rfl h1 k1
      conv => whnf
      refine hp.dkN h1 k1 ?_
      clear hp h1 k1
      intro s hp
      conv => whnf
      refine Sm.live [2, 3, 5, 6] ?_
      conv => whnf
      refine Sm.seq ?_
      refine Sm.seqW ?_
      conv => whnf
      refine Sm.ofW ?_
      conv => whnf
      by_cases hs : signF a = signF b
      · refine Br.no (bne_eq_false_iff_eq.2 hs) ?_
        conv => whnf
        refine Sm.seqW ?_
        conv => whnf
        refine hp.load (v := .int .i64 a.scale) (by repeat (first | exact Has.here | apply Has.there | (apply Has.swap; repeat (first | exact HasR.here | apply HasR.there)))) (by rfl) rfl rfl rfl ?_
        conv => whnf
        refine hp.load (v := .int .i64 b.scale) (by repeat (first | exact Has.here | apply Has.there | (apply Has.swap; repeat (first | exact HasR.here | apply HasR.there)))) (by rfl) rfl rfl rfl ?_
        conv => whnf
        have em : (if a.scale < b.scale then b.scale else a.scale) = max a.scale b.scale := by split <;> omega
        have em2 : (if b.scale > a.scale then b.scale else a.scale) = max a.scale b.scale := em
        rw [em2]
        generalize hS : max a.scale b.scale = S at *
        refine Sm.live [2, 3, 5, 7] ?_
        conv => whnf
        refine Sm.seqW ?_
        conv => whnf
        refine ⟨[0, 0, 3, 0, 0, 31, 63, 0, 255, 511], by decide +kernel, by decide +kernel, ?_⟩
        conv => whnf
        refine hp.loadA (l := a.cells) (by repeat (first | exact Has.here | apply Has.there | (apply Has.swap; repeat (first | exact HasR.here | apply HasR.there)))) rfl (by rfl) rfl rfl ?_
        conv => whnf
        refine hp.rst.call (wide_at hp.rst.wf ha hr (S := S) (by omega) (by omega)) ?_
        rintro _ s1 rfl h1 k1
        conv => whnf
        refine hp.dkN h1 k1 ?_
        clear hp h1 k1
        intro s hp
        conv => whnf
        refine hp.loadA (l := b.cells) (by repeat (first | exact Has.here | apply Has.there | (apply Has.swap; repeat (first | exact HasR.here | apply HasR.there)))) rfl (by rfl) rfl rfl ?_
        conv => whnf
        refine hp.rst.call (wide_at hp.rst.wf hb hrb (S := S) (by omega) (by omega)) ?_
        rintro _ s1 rfl h1 k1
        conv => whnf
        refine hp.dkN h1 k1 ?_
        clear hp h1 k1
        intro s hp
        conv => whnf
        have wa := wide_small (S := S) a1 (by omega)
        have wb := wide_small (S := S) b1 (by omega)
        refine hp.rst.call (dcmp_spec hp.rst.wf (a := a.c * 10 ^ (S - a.scale).toNat) (b := b.c * 10 ^ (S - b.scale).toNat) (by simp only [w256] at *; omega) (by simp only [w256] at *; omega)) ?_
        rintro _ s1 rfl h1 k1
        conv => whnf
        refine hp.dkN h1 k1 ?_
        clear hp h1 k1
        intro s hp
        conv => whnf
        refine Sm.ofW ?_
        conv => whnf
        refine ⟨hp.fr, congrArg (Value.int .i64) ?_⟩
        rw [cmp_same hr hrb hs, hS]
        rcases cmpI_cases (a.c * 10 ^ (S - a.scale).toNat) (b.c * 10 ^ (S - b.scale).toNat) with e | e | e <;> rcases (up_sign S hr).2.2.2 with g | g | g <;> rw [e, g] <;> rfl
      · refine Br.yes (bne_iff_ne.2 hs) ?_
        conv => whnf
        by_cases hlt : signF a < signF b
        · refine Br.yes (decide_eq_true hlt) ?_
          conv => whnf
          exact ⟨hp.fr, congrArg (Value.int .i64) (by rw [cmp_sign hr hrb hs, if_pos hlt])⟩
        · refine Br.no (decide_eq_false hlt) ?_
          conv => whnf
          exact ⟨hp.fr, congrArg (Value.int .i64) (by rw [cmp_sign hr hrb hs, if_neg hlt])⟩
theorem decAdd_spec {z : St} (wf : WF z) (a b : Dc) (ha : a.c < w128) (hb : b.c < w128) : Cw Tryd.prog 21 [a.val, b.val] z fun r s' => K0 z s' ∧ r = addF a b := by
  have hp : Hp (fun _ => False) z [] [] z := Hp.start _ wf _ (by simp)
  refine Cw.enterS Tryd.func21 rfl rfl ?_
  refine Sm.seqW ?_
  conv => whnf
  refine hp.var (cs := a.cells) (e := 4) rfl rfl ?_
  clear hp
  intro p2 s hp _
  conv => whnf
  refine hp.var (cs := b.cells) (e := 4) rfl rfl ?_
  clear hp
  intro p3 s hp _
  conv => whnf
  refine hp.alloc (cs := Dc.zero.cells) (e := 4) rfl rfl rfl rfl rfl ?_
  clear hp
  intro p4 s hp _
  conv => whnf
  refine Sm.live [2, 3, 4] ?_
  conv => whnf
  refine Sm.seq ?_
  refine Sm.seqW ?_
  conv => whnf
  refine hp.loadA (l := a.cells) (by repeat (first | exact Has.here | apply Has.there | (apply Has.swap; repeat (first | exact HasR.here | apply HasR.there)))) rfl (by rfl) rfl rfl ?_
  conv => whnf
  refine hp.call (right_spec hp.wf a ha) ?_
  clear hp
  rintro _ s rfl hp _
  conv => whnf
  cases hr : a.right with
  | false =>
    repeat (first | (refine Br.yes (by first | with_reducible rfl | with_reducible exact beq_self_eq_true _ | rfl) ?_; conv => whnf) | (refine Br.no (by first | with_reducible rfl | with_reducible exact bne_self_eq_false _ | rfl) ?_; conv => whnf))
    refine Sm.ofW ?_
    conv => whnf
    repeat (first | (refine Br.yes (by first | with_reducible rfl | with_reducible exact beq_self_eq_true _ | rfl) ?_; conv => whnf) | (refine Br.no (by first | with_reducible rfl | with_reducible exact bne_self_eq_false _ | rfl) ?_; conv => whnf))
    refine hp.storeW (vs := Dc.zero.cells) rfl (by repeat (first | exact Rm.here | apply Rm.there)) (by first | exact C2_same _ _ _ _ | exact C4_same _ _ _ _ _ _ _ _ | exact Dc_same _ _ | rfl) rfl rfl rfl ?_
    clear hp
    intro s hp _
    conv => whnf
    refine hp.loadA (l := Dc.zero.cells) (by repeat (first | exact Has.here | apply Has.there | (apply Has.swap; repeat (first | exact HasR.here | apply HasR.there)))) rfl (by rfl) rfl rfl ?_
    conv => whnf
    exact ⟨hp.fr, by unfold addF; rw [if_pos (.inl hr)]; rfl⟩
  | true =>
    repeat (first | (refine Br.yes (by first | with_reducible rfl | with_reducible exact beq_self_eq_true _ | rfl) ?_; conv => whnf) | (refine Br.no (by first | with_reducible rfl | with_reducible exact bne_self_eq_false _ | rfl) ?_; conv => whnf))
    refine hp.loadA (l := b.cells) (by repeat (first | exact Has.here | apply Has.there | (apply Has.swap; repeat (first | exact HasR.here | apply HasR.there)))) rfl (by rfl) rfl rfl ?_
    conv => whnf
    repeat (first | (refine Br.yes (by first | with_reducible rfl | with_reducible exact beq_self_eq_true _ | rfl) ?_; conv => whnf) | (refine Br.no (by first | with_reducible rfl | with_reducible exact bne_self_eq_false _ | rfl) ?_; conv => whnf))
    refine hp.call (right_spec hp.wf b hb) ?_
    clear hp
    rintro _ s rfl hp _
    conv => whnf
    cases hrb : b.right with
    | false =>
      repeat (first | (refine Br.yes (by first | with_reducible rfl | with_reducible exact beq_self_eq_true _ | rfl) ?_; conv => whnf) | (refine Br.no (by first | with_reducible rfl | with_reducible exact bne_self_eq_false _ | rfl) ?_; conv => whnf))
      refine Sm.ofW ?_
      conv => whnf
      repeat (first | (refine Br.yes (by first | with_reducible rfl | with_reducible exact beq_self_eq_true _ | rfl) ?_; conv => whnf) | (refine Br.no (by first | with_reducible rfl | with_reducible exact bne_self_eq_false _ | rfl) ?_; conv => whnf))
      refine hp.storeW (vs := Dc.zero.cells) rfl (by repeat (first | exact Rm.here | apply Rm.there)) (by first | exact C2_same _ _ _ _ | exact C4_same _ _ _ _ _ _ _ _ | exact Dc_same _ _ | rfl) rfl rfl rfl ?_
      clear hp
      intro s hp _
      conv => whnf
      refine hp.loadA (l := Dc.zero.cells) (by repeat (first | exact Has.here | apply Has.there | (apply Has.swap; repeat (first | exact HasR.here | apply HasR.there)))) rfl (by rfl) rfl rfl ?_
      conv => whnf
      exact ⟨hp.fr, by unfold addF; rw [if_pos (.inr hrb)]; rfl⟩
    | true =>
      obtain ⟨a1, a2, a3⟩ := Dc.right_c hr
      obtain ⟨b1, b2, b3⟩ := Dc.right_c hrb
      repeat (first | (refine Br.yes (by first | with_reducible rfl | with_reducible exact beq_self_eq_true _ | rfl) ?_; conv => whnf) | (refine Br.no (by first | with_reducible rfl | with_reducible exact bne_self_eq_false _ | rfl) ?_; conv => whnf))
      refine Sm.ofW ?_
      conv => whnf
      repeat (first | (refine Br.yes (by first | with_reducible rfl | with_reducible exact beq_self_eq_true _ | rfl) ?_; conv => whnf) | (refine Br.no (by first | with_reducible rfl | with_reducible exact bne_self_eq_false _ | rfl) ?_; conv => whnf))
      refine Sm.seqW ?_
      conv => whnf
      refine hp.load (v := .int .i64 a.scale) (by repeat (first | exact Has.here | apply Has.there | (apply Has.swap; repeat (first | exact HasR.here | apply HasR.there)))) (by rfl) rfl rfl rfl ?_
      conv => whnf
      refine hp.load (v := .int .i64 b.scale) (by repeat (first | exact Has.here | apply Has.there | (apply Has.swap; repeat (first | exact HasR.here | apply HasR.there)))) (by rfl) rfl rfl rfl ?_
      conv => whnf
      have em2 : (if b.scale > a.scale then b.scale else a.scale) = max a.scale b.scale := by split <;> omega
      have hfin : addF a b = mkI (up a (max a.scale b.scale) + up b (max a.scale b.scale)) (max a.scale b.scale) := by unfold addF; rw [if_neg (by simp [hr, hrb])]
      rw [em2]
      generalize hS : max a.scale b.scale = S at *
      have wa := wide_small (S := S) a1 (by omega)
      have wb := wide_small (S := S) b1 (by omega)
      have hsame := add_same (a := a) (b := b) (S := S)
      have hleft := add_left (a := a) (b := b) (S := S)
      have hright := add_right (a := a) (b := b) (S := S)
      refine Sm.live [2, 3, 4, 6] ?_
      conv => whnf
      refine Sm.seqW ?_
      conv => whnf
      refine ⟨[0, 0, 3, 0, 0, 31, 0, 0, 255, 511], by decide +kernel, by decide +kernel, ?_⟩
      conv => whnf
      refine hp.loadA (l := a.cells) (by repeat (first | exact Has.here | apply Has.there | (apply Has.swap; repeat (first | exact HasR.here | apply HasR.there)))) rfl (by rfl) rfl rfl ?_
      conv => whnf
      refine hp.rst.call (wide_at hp.rst.wf ha hr (S := S) (by omega) (by omega)) ?_
      rintro _ s1 rfl h1 k1
      conv => whnf
      refine hp.dkN h1 k1 ?_
      clear hp h1 k1
      intro s hp
      conv => whnf
      refine hp.loadA (l := b.cells) (by repeat (first | exact Has.here | apply Has.there | (apply Has.swap; repeat (first | exact HasR.here | apply HasR.there)))) rfl (by rfl) rfl rfl ?_
      conv => whnf
      refine hp.rst.call (wide_at hp.rst.wf hb hrb (S := S) (by omega) (by omega)) ?_
      rintro _ s1 rfl h1 k1
      conv => whnf
      refine hp.dkN h1 k1 ?_
      clear hp h1 k1
      intro s hp
      conv => whnf
      generalize a.c * 10 ^ (S - a.scale).toNat = x at *
      generalize b.c * 10 ^ (S - b.scale).toNat = y at *
      refine hp.rst.alloc (cs := C4 0 0 0 0) (e := 1) rfl rfl rfl rfl rfl ?_
      intro p7 s1 h1 k1
      conv => whnf
      refine hp.dkN h1 k1 ?_
      clear hp h1 k1
      intro s hp
      conv => whnf
      refine hp.rst.alloc (cs := C4 0 0 0 0) (e := 1) rfl rfl rfl rfl rfl ?_
      intro p8 s1 h1 k1
      conv => whnf
      refine hp.dkN h1 k1 ?_
      clear hp h1 k1
      intro s hp
      conv => whnf
      refine hp.rst.storeW (vs := C4 (x % w64) (x / w64 % w64) (x / w128 % w64) (x / w192)) rfl (by repeat (first | exact Rm.here | apply Rm.there)) (by first | exact C2_same _ _ _ _ | exact C4_same _ _ _ _ _ _ _ _ | exact Dc_same _ _ | rfl) rfl rfl rfl ?_
      intro s1 h1 l1
      conv => whnf
      refine hp.dkW h1 l1 ?_
      clear hp h1 l1
      intro s hp
      conv => whnf
      refine hp.rst.storeW (vs := C4 (y % w64) (y / w64 % w64) (y / w128 % w64) (y / w192)) rfl (by repeat (first | exact Rm.here | apply Rm.there)) (by first | exact C2_same _ _ _ _ | exact C4_same _ _ _ _ _ _ _ _ | exact Dc_same _ _ | rfl) rfl rfl rfl ?_
      intro s1 h1 l1
      conv => whnf
      refine hp.dkW h1 l1 ?_
      clear hp h1 l1
      intro s hp
      conv => whnf
      refine Sm.live [2, 3, 4, 6, 7, 8] ?_
      conv => whnf
      refine Sm.seq ?_
      refine Sm.block ?_
      refine Sm.seqW ?_
      conv => whnf
      refine hp.load (v := .bool a.neg) (by repeat (first | exact Has.here | apply Has.there | (apply Has.swap; repeat (first | exact HasR.here | apply HasR.there)))) (by rfl) rfl rfl rfl ?_
      conv => whnf
      refine hp.load (v := .bool b.neg) (by repeat (first | exact Has.here | apply Has.there | (apply Has.swap; repeat (first | exact HasR.here | apply HasR.there)))) (by rfl) rfl rfl rfl ?_
      conv => whnf
      refine Om.of _ (rfl) ?_
      conv => whnf
      refine Sm.ofW ?_
      conv => whnf
      have xw : x < w256 := by simp only [w256] at *; omega
      have yw : y < w256 := by simp only [w256] at *; omega
      by_cases hn : a.neg = b.neg
      · refine Br.yes (beq_iff_eq.2 hn) ?_
        conv => whnf
        refine ⟨[0, 1, 0, 0, 12, 0, 63, 127, 127, 511, 1023], by decide +kernel, by decide +kernel, ?_⟩
        conv => whnf
        refine hp.load (v := .bool a.neg) (by repeat (first | exact Has.here | apply Has.there | (apply Has.swap; repeat (first | exact HasR.here | apply HasR.there)))) (by rfl) rfl rfl rfl ?_
        conv => whnf
        refine hp.loadA (l := C4 (x % w64) (x / w64 % w64) (x / w128 % w64) (x / w192)) (by repeat (first | exact Has.here | apply Has.there | (apply Has.swap; repeat (first | exact HasR.here | apply HasR.there)))) rfl (by rfl) rfl rfl ?_
        conv => whnf
        refine hp.loadA (l := C4 (y % w64) (y / w64 % w64) (y / w128 % w64) (y / w192)) (by repeat (first | exact Has.here | apply Has.there | (apply Has.swap; repeat (first | exact HasR.here | apply HasR.there)))) rfl (by rfl) rfl rfl ?_
        conv => whnf
        refine hp.rst.call (dplus_spec hp.rst.wf wa wb) ?_
        rintro _ s1 rfl h1 k1
        conv => whnf
        refine hp.dkN h1 k1 ?_
        clear hp h1 k1
        intro s hp
        conv => whnf
        refine hp.rst.call (dmade_spec hp.rst.wf a.neg (n := x + y) (by simp only [w256] at *; omega) S) ?_
        rintro _ s1 rfl h1 k1
        conv => whnf
        refine hp.dkN h1 k1 ?_
        clear hp h1 k1
        intro s hp
        conv => whnf
        rw [hsame hn, ← hfin]
        obtain ⟨r, re, hx⟩ := addF_shape a b
        rw [hx]
        conv => whnf
        refine hp.rst.storeW (vs := r.cells) rfl (by repeat (first | exact Rm.here | apply Rm.there)) (by first | exact C2_same _ _ _ _ | exact C4_same _ _ _ _ _ _ _ _ | exact Dc_same _ _ | rfl) rfl rfl rfl ?_
        intro s1 h1 l1
        conv => whnf
        refine hp.dkW h1 l1 ?_
        clear hp h1 l1
        intro s hp
        conv => whnf
        refine hp.loadA (l := r.cells) (by repeat (first | exact Has.here | apply Has.there | (apply Has.swap; repeat (first | exact HasR.here | apply HasR.there)))) rfl (by rfl) rfl rfl ?_
        conv => whnf
        exact ⟨hp.fr, rfl⟩
      · refine Br.no (beq_eq_false_iff_ne.2 hn) ?_
        conv => whnf
        refine hp.loadA (l := C4 (x % w64) (x / w64 % w64) (x / w128 % w64) (x / w192)) (by repeat (first | exact Has.here | apply Has.there | (apply Has.swap; repeat (first | exact HasR.here | apply HasR.there)))) rfl (by rfl) rfl rfl ?_
        conv => whnf
        refine hp.loadA (l := C4 (y % w64) (y / w64 % w64) (y / w128 % w64) (y / w192)) (by repeat (first | exact Has.here | apply Has.there | (apply Has.swap; repeat (first | exact HasR.here | apply HasR.there)))) rfl (by rfl) rfl rfl ?_
        conv => whnf
        refine hp.call (dcmp_spec hp.wf xw yw) ?_
        clear hp
        rintro _ s rfl hp _
        conv => whnf
        by_cases hle : y ≤ x
        · have hc : decide (cmpI x y ≥ 0) = true := decide_eq_true (by unfold cmpI; rw [if_neg (by omega)]; split <;> decide)
          refine Br.yes (hc) ?_
          conv => whnf
          refine ⟨[0, 1, 0, 0, 12, 0, 63, 127, 127, 511, 1023], by decide +kernel, by decide +kernel, ?_⟩
          conv => whnf
          refine hp.load (v := .bool a.neg) (by repeat (first | exact Has.here | apply Has.there | (apply Has.swap; repeat (first | exact HasR.here | apply HasR.there)))) (by rfl) rfl rfl rfl ?_
          conv => whnf
          refine hp.loadA (l := C4 (x % w64) (x / w64 % w64) (x / w128 % w64) (x / w192)) (by repeat (first | exact Has.here | apply Has.there | (apply Has.swap; repeat (first | exact HasR.here | apply HasR.there)))) rfl (by rfl) rfl rfl ?_
          conv => whnf
          refine hp.loadA (l := C4 (y % w64) (y / w64 % w64) (y / w128 % w64) (y / w192)) (by repeat (first | exact Has.here | apply Has.there | (apply Has.swap; repeat (first | exact HasR.here | apply HasR.there)))) rfl (by rfl) rfl rfl ?_
          conv => whnf
          refine hp.rst.call (dless_spec hp.rst.wf xw hle) ?_
          rintro _ s1 rfl h1 k1
          conv => whnf
          refine hp.dkN h1 k1 ?_
          clear hp h1 k1
          intro s hp
          conv => whnf
          refine hp.rst.call (dmade_spec hp.rst.wf a.neg (n := x - y) (by omega) S) ?_
          rintro _ s1 rfl h1 k1
          conv => whnf
          refine hp.dkN h1 k1 ?_
          clear hp h1 k1
          intro s hp
          conv => whnf
          rw [hleft hn hle, ← hfin]
          obtain ⟨r, re, hx⟩ := addF_shape a b
          rw [hx]
          conv => whnf
          refine hp.rst.storeW (vs := r.cells) rfl (by repeat (first | exact Rm.here | apply Rm.there)) (by first | exact C2_same _ _ _ _ | exact C4_same _ _ _ _ _ _ _ _ | exact Dc_same _ _ | rfl) rfl rfl rfl ?_
          intro s1 h1 l1
          conv => whnf
          refine hp.dkW h1 l1 ?_
          clear hp h1 l1
          intro s hp
          conv => whnf
          refine hp.loadA (l := r.cells) (by repeat (first | exact Has.here | apply Has.there | (apply Has.swap; repeat (first | exact HasR.here | apply HasR.there)))) rfl (by rfl) rfl rfl ?_
          conv => whnf
          exact ⟨hp.fr, rfl⟩
        · have hc : decide (cmpI x y ≥ 0) = false := decide_eq_false (by unfold cmpI; rw [if_pos (by omega)]; decide)
          refine Br.no (hc) ?_
          conv => whnf
          refine Sm.seqW ?_
          conv => whnf
          refine ⟨[0, 1, 0, 0, 12, 0, 63, 127, 127, 511, 1023], by decide +kernel, by decide +kernel, ?_⟩
          conv => whnf
          refine hp.load (v := .bool b.neg) (by repeat (first | exact Has.here | apply Has.there | (apply Has.swap; repeat (first | exact HasR.here | apply HasR.there)))) (by rfl) rfl rfl rfl ?_
          conv => whnf
          refine hp.loadA (l := C4 (y % w64) (y / w64 % w64) (y / w128 % w64) (y / w192)) (by repeat (first | exact Has.here | apply Has.there | (apply Has.swap; repeat (first | exact HasR.here | apply HasR.there)))) rfl (by rfl) rfl rfl ?_
          conv => whnf
          refine hp.loadA (l := C4 (x % w64) (x / w64 % w64) (x / w128 % w64) (x / w192)) (by repeat (first | exact Has.here | apply Has.there | (apply Has.swap; repeat (first | exact HasR.here | apply HasR.there)))) rfl (by rfl) rfl rfl ?_
          conv => whnf
          refine hp.rst.call (dless_spec hp.rst.wf yw (b := x) (by omega)) ?_
          rintro _ s1 rfl h1 k1
          conv => whnf
          refine hp.dkN h1 k1 ?_
          clear hp h1 k1
          intro s hp
          conv => whnf
          refine hp.rst.call (dmade_spec hp.rst.wf b.neg (n := y - x) (by omega) S) ?_
          rintro _ s1 rfl h1 k1
          conv => whnf
          refine hp.dkN h1 k1 ?_
          clear hp h1 k1
          intro s hp
          conv => whnf
          rw [hright hn (by omega), ← hfin]
          obtain ⟨r, re, hx⟩ := addF_shape a b
          rw [hx]
          conv => whnf
          refine hp.rst.storeW (vs := r.cells) rfl (by repeat (first | exact Rm.here | apply Rm.there)) (by first | exact C2_same _ _ _ _ | exact C4_same _ _ _ _ _ _ _ _ | exact Dc_same _ _ | rfl) rfl rfl rfl ?_
          intro s1 h1 l1
          conv => whnf
          refine hp.dkW h1 l1 ?_
          clear hp h1 l1
          intro s hp
          conv => whnf
          refine Sm.ofW ?_
          conv => whnf
          refine hp.loadA (l := r.cells) (by repeat (first | exact Has.here | apply Has.there | (apply Has.swap; repeat (first | exact HasR.here | apply HasR.there)))) rfl (by rfl) rfl rfl ?_
          conv => whnf
          exact ⟨hp.fr, rfl⟩
theorem decSub_spec {z : St} (wf : WF z) (a b : Dc) (ha : a.c < w128) (hb : b.c < w128) : Cw Tryd.prog 23 [a.val, b.val] z fun r s' => K0 z s' ∧ r = subF a b := by
  have hp : Hp (fun _ => False) z [] [] z := Hp.start _ wf _ (by simp)
  refine Cw.enterS Tryd.func23 rfl rfl ?_
  refine Sm.seqW ?_
  conv => whnf
  refine hp.var (cs := a.cells) (e := 4) rfl rfl ?_
  clear hp
  intro p2 s hp _
  conv => whnf
  refine hp.var (cs := b.cells) (e := 4) rfl rfl ?_
  clear hp
  intro p3 s hp _
  conv => whnf
  refine hp.alloc (cs := Dc.zero.cells) (e := 4) rfl rfl rfl rfl rfl ?_
  clear hp
  intro p4 s hp _
  conv => whnf
  refine Sm.live [2, 3, 4] ?_
  conv => whnf
  refine Sm.seq ?_
  refine Sm.seqW ?_
  conv => whnf
  refine hp.loadA (l := b.cells) (by repeat (first | exact Has.here | apply Has.there | (apply Has.swap; repeat (first | exact HasR.here | apply HasR.there)))) rfl (by rfl) rfl rfl ?_
  conv => whnf
  refine hp.call (right_spec hp.wf b hb) ?_
  clear hp
  rintro _ s rfl hp _
  conv => whnf
  cases hrb : b.right with
  | false =>
    repeat (first | (refine Br.yes (by first | with_reducible rfl | with_reducible exact beq_self_eq_true _ | rfl) ?_; conv => whnf) | (refine Br.no (by first | with_reducible rfl | with_reducible exact bne_self_eq_false _ | rfl) ?_; conv => whnf))
    refine Sm.ofW ?_
    conv => whnf
    repeat (first | (refine Br.yes (by first | with_reducible rfl | with_reducible exact beq_self_eq_true _ | rfl) ?_; conv => whnf) | (refine Br.no (by first | with_reducible rfl | with_reducible exact bne_self_eq_false _ | rfl) ?_; conv => whnf))
    refine hp.storeW (vs := Dc.zero.cells) rfl (by repeat (first | exact Rm.here | apply Rm.there)) (by first | exact C2_same _ _ _ _ | exact C4_same _ _ _ _ _ _ _ _ | exact Dc_same _ _ | rfl) rfl rfl rfl ?_
    clear hp
    intro s hp _
    conv => whnf
    refine hp.loadA (l := Dc.zero.cells) (by repeat (first | exact Has.here | apply Has.there | (apply Has.swap; repeat (first | exact HasR.here | apply HasR.there)))) rfl (by rfl) rfl rfl ?_
    conv => whnf
    exact ⟨hp.fr, by unfold subF; rw [if_pos hrb]; rfl⟩
  | true =>
    repeat (first | (refine Br.yes (by first | with_reducible rfl | with_reducible exact beq_self_eq_true _ | rfl) ?_; conv => whnf) | (refine Br.no (by first | with_reducible rfl | with_reducible exact bne_self_eq_false _ | rfl) ?_; conv => whnf))
    refine Sm.ofW ?_
    conv => whnf
    repeat (first | (refine Br.yes (by first | with_reducible rfl | with_reducible exact beq_self_eq_true _ | rfl) ?_; conv => whnf) | (refine Br.no (by first | with_reducible rfl | with_reducible exact bne_self_eq_false _ | rfl) ?_; conv => whnf))
    refine Sm.seqW ?_
    conv => whnf
    refine ⟨[0, 0, 2, 7, 15, 15, 63, 127], by decide +kernel, by decide +kernel, ?_⟩
    conv => whnf
    refine hp.loadA (l := a.cells) (by repeat (first | exact Has.here | apply Has.there | (apply Has.swap; repeat (first | exact HasR.here | apply HasR.there)))) rfl (by rfl) rfl rfl ?_
    conv => whnf
    refine hp.loadA (l := b.cells) (by repeat (first | exact Has.here | apply Has.there | (apply Has.swap; repeat (first | exact HasR.here | apply HasR.there)))) rfl (by rfl) rfl rfl ?_
    conv => whnf
    refine hp.rst.call (dneg_spec hp.rst.wf b hb) ?_
    rintro _ s1 rfl h1 k1
    conv => whnf
    refine hp.dkN h1 k1 ?_
    clear hp h1 k1
    intro s hp
    conv => whnf
    refine hp.rst.call (decAdd_spec hp.rst.wf a (negF b) ha (negF_c hb)) ?_
    rintro _ s1 rfl h1 k1
    conv => whnf
    refine hp.dkN h1 k1 ?_
    clear hp h1 k1
    intro s hp
    conv => whnf
    have hfin : addF a (negF b) = subF a b := by unfold subF; rw [if_neg (by simp [hrb])]
    rw [hfin]
    obtain ⟨r, re, hx⟩ := subF_shape a b
    rw [hx]
    conv => whnf
    refine hp.rst.storeW (vs := r.cells) rfl (by repeat (first | exact Rm.here | apply Rm.there)) (by first | exact C2_same _ _ _ _ | exact C4_same _ _ _ _ _ _ _ _ | exact Dc_same _ _ | rfl) rfl rfl rfl ?_
    intro s1 h1 l1
    conv => whnf
    refine hp.dkW h1 l1 ?_
    clear hp h1 l1
    intro s hp
    conv => whnf
    refine Sm.ofW ?_
    conv => whnf
    refine hp.loadA (l := r.cells) (by repeat (first | exact Has.here | apply Has.there | (apply Has.swap; repeat (first | exact HasR.here | apply HasR.there)))) rfl (by rfl) rfl rfl ?_
    conv => whnf
    exact ⟨hp.fr, rfl⟩
theorem decMul_spec {z : St} (wf : WF z) (a b : Dc) (ha : a.c < w128) (hb : b.c < w128) : Cw Tryd.prog 22 [a.val, b.val] z fun r s' => K0 z s' ∧ r = mulF a b := by
  have hp : Hp (fun _ => False) z [] [] z := Hp.start _ wf _ (by simp)
  refine Cw.enterS Tryd.func22 rfl rfl ?_
  refine Sm.seqW ?_
  conv => whnf
  refine hp.var (cs := a.cells) (e := 4) rfl rfl ?_
  clear hp
  intro p2 s hp _
  conv => whnf
  refine hp.var (cs := b.cells) (e := 4) rfl rfl ?_
  clear hp
  intro p3 s hp _
  conv => whnf
  refine hp.alloc (cs := Dc.zero.cells) (e := 4) rfl rfl rfl rfl rfl ?_
  clear hp
  intro p4 s hp _
  conv => whnf
  refine Sm.live [2, 3, 4] ?_
  conv => whnf
  refine Sm.seq ?_
  refine Sm.block ?_
  refine Sm.seqW ?_
  conv => whnf
  refine hp.loadA (l := a.cells) (by repeat (first | exact Has.here | apply Has.there | (apply Has.swap; repeat (first | exact HasR.here | apply HasR.there)))) rfl (by rfl) rfl rfl ?_
  conv => whnf
  refine hp.call (right_spec hp.wf a ha) ?_
  clear hp
  rintro _ s rfl hp _
  conv => whnf
  cases hr : a.right with
  | false =>
    repeat (first | (refine Br.yes (by first | with_reducible rfl | with_reducible exact beq_self_eq_true _ | rfl) ?_; conv => whnf) | (refine Br.no (by first | with_reducible rfl | with_reducible exact bne_self_eq_false _ | rfl) ?_; conv => whnf))
    refine Sm.ofW ?_
    conv => whnf
    repeat (first | (refine Br.yes (by first | with_reducible rfl | with_reducible exact beq_self_eq_true _ | rfl) ?_; conv => whnf) | (refine Br.no (by first | with_reducible rfl | with_reducible exact bne_self_eq_false _ | rfl) ?_; conv => whnf))
    refine hp.storeW (vs := Dc.zero.cells) rfl (by repeat (first | exact Rm.here | apply Rm.there)) (by first | exact C2_same _ _ _ _ | exact C4_same _ _ _ _ _ _ _ _ | exact Dc_same _ _ | rfl) rfl rfl rfl ?_
    clear hp
    intro s hp _
    conv => whnf
    refine hp.loadA (l := Dc.zero.cells) (by repeat (first | exact Has.here | apply Has.there | (apply Has.swap; repeat (first | exact HasR.here | apply HasR.there)))) rfl (by rfl) rfl rfl ?_
    conv => whnf
    exact ⟨hp.fr, by unfold mulF; rw [if_pos (.inl hr)]; rfl⟩
  | true =>
    repeat (first | (refine Br.yes (by first | with_reducible rfl | with_reducible exact beq_self_eq_true _ | rfl) ?_; conv => whnf) | (refine Br.no (by first | with_reducible rfl | with_reducible exact bne_self_eq_false _ | rfl) ?_; conv => whnf))
    refine hp.loadA (l := b.cells) (by repeat (first | exact Has.here | apply Has.there | (apply Has.swap; repeat (first | exact HasR.here | apply HasR.there)))) rfl (by rfl) rfl rfl ?_
    conv => whnf
    repeat (first | (refine Br.yes (by first | with_reducible rfl | with_reducible exact beq_self_eq_true _ | rfl) ?_; conv => whnf) | (refine Br.no (by first | with_reducible rfl | with_reducible exact bne_self_eq_false _ | rfl) ?_; conv => whnf))
    refine hp.call (right_spec hp.wf b hb) ?_
    clear hp
    rintro _ s rfl hp _
    conv => whnf
    cases hrb : b.right with
    | false =>
      repeat (first | (refine Br.yes (by first | with_reducible rfl | with_reducible exact beq_self_eq_true _ | rfl) ?_; conv => whnf) | (refine Br.no (by first | with_reducible rfl | with_reducible exact bne_self_eq_false _ | rfl) ?_; conv => whnf))
      refine Sm.ofW ?_
      conv => whnf
      repeat (first | (refine Br.yes (by first | with_reducible rfl | with_reducible exact beq_self_eq_true _ | rfl) ?_; conv => whnf) | (refine Br.no (by first | with_reducible rfl | with_reducible exact bne_self_eq_false _ | rfl) ?_; conv => whnf))
      refine hp.storeW (vs := Dc.zero.cells) rfl (by repeat (first | exact Rm.here | apply Rm.there)) (by first | exact C2_same _ _ _ _ | exact C4_same _ _ _ _ _ _ _ _ | exact Dc_same _ _ | rfl) rfl rfl rfl ?_
      clear hp
      intro s hp _
      conv => whnf
      refine hp.loadA (l := Dc.zero.cells) (by repeat (first | exact Has.here | apply Has.there | (apply Has.swap; repeat (first | exact HasR.here | apply HasR.there)))) rfl (by rfl) rfl rfl ?_
      conv => whnf
      exact ⟨hp.fr, by unfold mulF; rw [if_pos (.inr hrb)]; rfl⟩
    | true =>
      obtain ⟨a1, a2, a3⟩ := Dc.right_c hr
      obtain ⟨b1, b2, b3⟩ := Dc.right_c hrb
      have es : IntKind.i64.wrap (a.scale + b.scale) = a.scale + b.scale := wi64 (by omega) (by omega)
      have hlt : a.c * b.c < w256 := by
        have : a.c * b.c ≤ 10 ^ 30 * 10 ^ 30 := Nat.mul_le_mul (Nat.le_of_lt a1) (Nat.le_of_lt b1)
        have h2 : 10 ^ 30 * 10 ^ 30 < w256 := by decide
        omega
      repeat (first | (refine Br.yes (by first | with_reducible rfl | with_reducible exact beq_self_eq_true _ | rfl) ?_; conv => whnf) | (refine Br.no (by first | with_reducible rfl | with_reducible exact bne_self_eq_false _ | rfl) ?_; conv => whnf))
      refine Sm.ofW ?_
      conv => whnf
      repeat (first | (refine Br.yes (by first | with_reducible rfl | with_reducible exact beq_self_eq_true _ | rfl) ?_; conv => whnf) | (refine Br.no (by first | with_reducible rfl | with_reducible exact bne_self_eq_false _ | rfl) ?_; conv => whnf))
      refine hp.load (v := .int .i64 a.scale) (by repeat (first | exact Has.here | apply Has.there | (apply Has.swap; repeat (first | exact HasR.here | apply HasR.there)))) (by rfl) rfl rfl rfl ?_
      conv => whnf
      refine hp.load (v := .int .i64 b.scale) (by repeat (first | exact Has.here | apply Has.there | (apply Has.swap; repeat (first | exact HasR.here | apply HasR.there)))) (by rfl) rfl rfl rfl ?_
      conv => whnf
      rw [es]
      by_cases hs : 9 < a.scale + b.scale
      · refine Br.yes (decide_eq_true hs) ?_
        conv => whnf
        refine hp.storeW (vs := Dc.zero.cells) rfl (by repeat (first | exact Rm.here | apply Rm.there)) (by first | exact C2_same _ _ _ _ | exact C4_same _ _ _ _ _ _ _ _ | exact Dc_same _ _ | rfl) rfl rfl rfl ?_
        clear hp
        intro s hp _
        conv => whnf
        refine hp.loadA (l := Dc.zero.cells) (by repeat (first | exact Has.here | apply Has.there | (apply Has.swap; repeat (first | exact HasR.here | apply HasR.there)))) rfl (by rfl) rfl rfl ?_
        conv => whnf
        exact ⟨hp.fr, by unfold mulF; rw [if_neg (by simp [hr, hrb]), if_pos hs]; rfl⟩
      · refine Br.no (decide_eq_false hs) ?_
        conv => whnf
        refine Sm.seqW ?_
        conv => whnf
        refine ⟨[0, 1, 0, 4, 15, 0, 32, 0, 128, 480, 0, 1024, 0, 4096, 15360, 32767, 65535, 65535, 262143, 524287], by decide +kernel, by decide +kernel, ?_⟩
        conv => whnf
        refine hp.load (v := .bool a.neg) (by repeat (first | exact Has.here | apply Has.there | (apply Has.swap; repeat (first | exact HasR.here | apply HasR.there)))) (by rfl) rfl rfl rfl ?_
        conv => whnf
        refine hp.load (v := .bool b.neg) (by repeat (first | exact Has.here | apply Has.there | (apply Has.swap; repeat (first | exact HasR.here | apply HasR.there)))) (by rfl) rfl rfl rfl ?_
        conv => whnf
        refine Om.of _ (rfl) ?_
        conv => whnf
        refine hp.loadA (l := C2 (a.c % w64) (a.c / w64)) (by repeat (first | exact Has.here | apply Has.there | (apply Has.swap; repeat (first | exact HasR.here | apply HasR.there)))) rfl (by rfl) rfl rfl ?_
        conv => whnf
        refine hp.loadA (l := C2 (b.c % w64) (b.c / w64)) (by repeat (first | exact Has.here | apply Has.there | (apply Has.swap; repeat (first | exact HasR.here | apply HasR.there)))) rfl (by rfl) rfl rfl ?_
        conv => whnf
        refine hp.rst.call (lMul_spec hp.rst.wf ha hb) ?_
        rintro _ s1 rfl h1 k1
        conv => whnf
        refine hp.dkN h1 k1 ?_
        clear hp h1 k1
        intro s hp
        conv => whnf
        refine hp.load (v := .int .i64 a.scale) (by repeat (first | exact Has.here | apply Has.there | (apply Has.swap; repeat (first | exact HasR.here | apply HasR.there)))) (by rfl) rfl rfl rfl ?_
        conv => whnf
        refine hp.load (v := .int .i64 b.scale) (by repeat (first | exact Has.here | apply Has.there | (apply Has.swap; repeat (first | exact HasR.here | apply HasR.there)))) (by rfl) rfl rfl rfl ?_
        conv => whnf
        rw [es]
        refine hp.rst.call (dmade_spec hp.rst.wf (a.neg != b.neg) hlt (a.scale + b.scale)) ?_
        rintro _ s1 rfl h1 k1
        conv => whnf
        refine hp.dkN h1 k1 ?_
        clear hp h1 k1
        intro s hp
        conv => whnf
        have hfin : mulF a b = dmade (a.neg != b.neg) (a.c * b.c) (a.scale + b.scale) := by unfold mulF; rw [if_neg (by simp [hr, hrb]), if_neg hs]
        rw [← hfin]
        obtain ⟨r, re, hx⟩ := mulF_shape a b
        rw [hx]
        conv => whnf
        refine hp.rst.storeW (vs := r.cells) rfl (by repeat (first | exact Rm.here | apply Rm.there)) (by first | exact C2_same _ _ _ _ | exact C4_same _ _ _ _ _ _ _ _ | exact Dc_same _ _ | rfl) rfl rfl rfl ?_
        intro s1 h1 l1
        conv => whnf
        refine hp.dkW h1 l1 ?_
        clear hp h1 l1
        intro s hp
        conv => whnf
        refine Sm.ofW ?_
        conv => whnf
        refine hp.loadA (l := r.cells) (by repeat (first | exact Has.here | apply Has.there | (apply Has.swap; repeat (first | exact HasR.here | apply HasR.there)))) rfl (by rfl) rfl rfl ?_
        conv => whnf
        exact ⟨hp.fr, rfl⟩
end Go.Ev
end

/- Decimals as whole numbers at a scale, without a program. No condition. -/
noncomputable section
namespace Go.Ev
open Go.Proofs
set_option linter.unusedVariables false

/-- A decimal of a whole number at a scale. -/
def mkD (x : Int) (S : Int) : Dc := ⟨decide (x < 0), x.natAbs, S⟩
theorem mkD_right {x S : Int} (h : x.natAbs < 10 ^ 30) (h1 : 0 ≤ S) (h2 : S ≤ 9) : (mkD x S).right = true := by
  unfold mkD Dc.right
  simp only [h, decide_true, Bool.true_and, Bool.and_eq_true, decide_eq_true_eq, Bool.not_eq_true', Bool.and_eq_false_iff, decide_eq_false_iff_not]
  exact ⟨h1, h2, by omega⟩
theorem mkI_ok {x S : Int} (h : x.natAbs < 10 ^ 30) : mkI x S = okD (mkD x S) := by
  unfold mkI
  rw [dmade_ok h]
  have : (decide (x < 0) && !decide (x.natAbs = 0)) = decide (x < 0) := by
    by_cases g : x < 0
    · rw [decide_eq_false (show ¬ x.natAbs = 0 by omega)]; simp
    · rw [decide_eq_false g]; rfl
  rw [this]; rfl
theorem up_mkD (x S T : Int) : up (mkD x S) T = x * 10 ^ (T - S).toNat := by
  unfold up mkD
  have e : ((10 : Int) ^ (T - S).toNat) = ((10 ^ (T - S).toNat : Nat) : Int) := by push_cast; rfl
  rw [e]
  generalize 10 ^ (T - S).toNat = g
  by_cases h : x < 0
  · rw [if_pos (by simpa using h), Int.natCast_mul, show ((x.natAbs : Nat) : Int) = -x by omega, Int.neg_mul, Int.neg_neg]
  · rw [if_neg (by simpa using h), Int.natCast_mul, show ((x.natAbs : Nat) : Int) = x by omega]
theorem sign_mkD {x S : Int} (h : x.natAbs < 10 ^ 30) (h1 : 0 ≤ S) (h2 : S ≤ 9) : signF (mkD x S) = if x = 0 then 0 else if x < 0 then -1 else 1 := by
  rw [sign_right (mkD_right h h1 h2)]
  unfold mkD
  by_cases h0 : x = 0
  · subst h0; rfl
  · rw [if_neg (show ¬ x.natAbs = 0 by omega), if_neg h0]
    by_cases g : x < 0 <;> simp [g]
theorem negF_mkD {x S : Int} (h : x.natAbs < 10 ^ 30) (h1 : 0 ≤ S) (h2 : S ≤ 9) : negF (mkD x S) = mkD (-x) S := by
  rw [negF_right (mkD_right h h1 h2)]
  unfold mkD
  congr 1
  · by_cases g : x < 0
    · rw [decide_eq_true g, decide_eq_false (show ¬ -x < 0 by omega)]; rfl
    · by_cases g0 : x = 0
      · subst g0; rfl
      · rw [decide_eq_false g, decide_eq_false (show ¬ x.natAbs = 0 by omega), decide_eq_true (show -x < 0 by omega)]; rfl
  · simp
theorem addF_mkD {x y S T : Int} (hx : x.natAbs < 10 ^ 30) (hy : y.natAbs < 10 ^ 30) (s1 : 0 ≤ S) (s2 : S ≤ 9) (t1 : 0 ≤ T) (t2 : T ≤ 9) :
    addF (mkD x S) (mkD y T) = mkI (x * 10 ^ (max S T - S).toNat + y * 10 ^ (max S T - T).toNat) (max S T) := by
  unfold addF
  rw [if_neg (by simp [mkD_right hx s1 s2, mkD_right hy t1 t2]), up_mkD, up_mkD]
  rfl
theorem subF_mkD {x y S T : Int} (hx : x.natAbs < 10 ^ 30) (hy : y.natAbs < 10 ^ 30) (s1 : 0 ≤ S) (s2 : S ≤ 9) (t1 : 0 ≤ T) (t2 : T ≤ 9) :
    subF (mkD x S) (mkD y T) = mkI (x * 10 ^ (max S T - S).toNat - y * 10 ^ (max S T - T).toNat) (max S T) := by
  unfold subF
  rw [if_neg (by simp [mkD_right hy t1 t2]), negF_mkD hy t1 t2, addF_mkD hx (by omega) s1 s2 t1 t2, Int.neg_mul]
  rfl
theorem cmpF_mkD {x y S T : Int} (hx : x.natAbs < 10 ^ 30) (hy : y.natAbs < 10 ^ 30) (s1 : 0 ≤ S) (s2 : S ≤ 9) (t1 : 0 ≤ T) (t2 : T ≤ 9) :
    cmpF (mkD x S) (mkD y T) = cmpZ (x * 10 ^ (max S T - S).toNat) (y * 10 ^ (max S T - T).toNat) := by
  unfold cmpF
  rw [if_neg (by simp [mkD_right hx s1 s2, mkD_right hy t1 t2]), up_mkD, up_mkD]
  rfl
theorem sgn_mul (x y : Int) : (if (decide (x < 0) != decide (y < 0)) = true then -((x.natAbs * y.natAbs : Nat) : Int) else ((x.natAbs * y.natAbs : Nat) : Int)) = x * y := by
  rw [Int.natCast_mul]
  by_cases hx : x < 0 <;> by_cases hy : y < 0
  · rw [decide_eq_true hx, decide_eq_true hy, if_neg (by decide), show ((x.natAbs : Nat) : Int) = -x by omega, show ((y.natAbs : Nat) : Int) = -y by omega, Int.neg_mul_neg]
  · rw [decide_eq_true hx, decide_eq_false hy, if_pos (by decide), show ((x.natAbs : Nat) : Int) = -x by omega, show ((y.natAbs : Nat) : Int) = y by omega, Int.neg_mul, Int.neg_neg]
  · rw [decide_eq_false hx, decide_eq_true hy, if_pos (by decide), show ((x.natAbs : Nat) : Int) = x by omega, show ((y.natAbs : Nat) : Int) = -y by omega, Int.mul_neg, Int.neg_neg]
  · rw [decide_eq_false hx, decide_eq_false hy, if_neg (by decide), show ((x.natAbs : Nat) : Int) = x by omega, show ((y.natAbs : Nat) : Int) = y by omega]
theorem mulF_mkD {x y S T : Int} (hx : x.natAbs < 10 ^ 30) (hy : y.natAbs < 10 ^ 30) (s1 : 0 ≤ S) (s2 : S ≤ 9) (t1 : 0 ≤ T) (t2 : T ≤ 9) (h : S + T ≤ 9) :
    mulF (mkD x S) (mkD y T) = mkI (x * y) (S + T) := by
  unfold mulF
  have e : (mkD x S).scale = S ∧ (mkD y T).scale = T := ⟨rfl, rfl⟩
  rw [if_neg (by simp [mkD_right hx s1 s2, mkD_right hy t1 t2]), if_neg (by rw [e.1, e.2]; omega), dmade_mk, e.1, e.2]
  exact congrArg (fun z => mkI z (S + T)) (sgn_mul x y)
/-- Rounded, with its sign. -/
def rZ (x : Int) (B : Nat) (mode : Int) : Int := if x < 0 then -((roundN true x.natAbs B mode : Nat) : Int) else ((roundN false x.natAbs B mode : Nat) : Int)
theorem dmade_rZ (x : Int) (B : Nat) (mode S : Int) : dmade (decide (x < 0)) (roundN (decide (x < 0)) x.natAbs B mode) S = mkI (rZ x B mode) S := by
  rw [dmade_mk]
  unfold rZ
  by_cases h : x < 0
  · rw [decide_eq_true h, if_pos rfl, if_pos h]
  · rw [decide_eq_false h, if_neg (by decide), if_neg h]
theorem quantF_down {x S to mode : Int} (hx : x.natAbs < 10 ^ 30) (s1 : 0 ≤ S) (s2 : S ≤ 9) (t1 : 0 ≤ to) (t2 : to ≤ S) (m1 : 0 ≤ mode) (m2 : mode ≤ 4) :
    quantF (mkD x S) to mode = mkI (rZ x (10 ^ (S - to).toNat) mode) to := by
  rw [quantF_eq (mkD_right hx s1 s2) t1 (by omega) m1 m2, ← dmade_rZ]
  have e : qN (mkD x S).neg (mkD x S).c (mkD x S).scale to mode = roundN (decide (x < 0)) x.natAbs (10 ^ (S - to).toNat) mode := by
    show qN (decide (x < 0)) x.natAbs S to mode = _
    unfold qN
    by_cases h : S ≤ to
    · have : to = S := by omega
      subst this
      rw [if_pos (Int.le_refl _), Int.sub_self]
      have := roundN_exact (decide (x < 0)) (n := x.natAbs) (b := 1) (by decide) mode
      rw [Nat.mul_one] at this
      simp only [Int.toNat_zero, Nat.pow_zero]
      rw [this, Nat.mul_one]
    · rw [if_neg h]
  rw [e]; rfl
theorem quantF_up {x S to mode : Int} (hx : x.natAbs < 10 ^ 30) (s1 : 0 ≤ S) (t1 : S ≤ to) (t2 : to ≤ 9) (m1 : 0 ≤ mode) (m2 : mode ≤ 4) :
    quantF (mkD x S) to mode = mkI (x * 10 ^ (to - S).toNat) to := by
  rw [quantF_eq (mkD_right hx s1 (by omega)) (by omega) t2 m1 m2]
  unfold qN
  rw [if_pos (show (mkD x S).scale ≤ to from t1), dmade_mk]
  congr 1
  have := up_mkD x S to
  unfold up at this
  exact this
/-- How far off what is rounded may be. -/
theorem roundN_off (neg : Bool) (n : Nat) {B : Nat} (hB : 0 < B) (mode : Int) :
    roundN neg n B mode * B < n + B ∧ n < roundN neg n B mode * B + B ∧
    (mode = 3 ∨ mode = 4 → 2 * (roundN neg n B mode * B) ≤ 2 * n + B ∧ 2 * n ≤ 2 * (roundN neg n B mode * B) + B) ∧
    (mode = 0 → roundN neg n B mode * B ≤ n) ∧ (mode = 1 → n ≤ roundN neg n B mode * B) ∧ (mode = 2 → (neg = true → n ≤ roundN neg n B mode * B) ∧ (neg = false → roundN neg n B mode * B ≤ n)) := by
  rw [roundN_far neg hB]
  have hd := Nat.div_add_mod n B
  have hr := Nat.mod_lt n hB
  generalize n / B = q at *
  generalize n % B = r at *
  have e : (q + 1) * B = B * q + B := by rw [Nat.add_mul, Nat.one_mul, Nat.mul_comm]
  have e0 : (q + 0) * B = B * q := by rw [Nat.add_zero, Nat.mul_comm]
  generalize B * q = p at *
  have hcmp : ∀ x y : Nat, (cmpI x y < 0 ↔ x < y) ∧ (cmpI x y = 0 ↔ x = y) ∧ (0 < cmpI x y ↔ y < x) := fun x y => by
    unfold cmpI
    split
    · omega
    · split <;> omega
  obtain ⟨h1, h2, h3⟩ := hcmp (r + r) B
  unfold farR
  by_cases m1 : mode = 1
  · subst m1
    rw [if_pos rfl]
    by_cases h : 0 < r
    · rw [if_pos (decide_eq_true h), e]; omega
    · rw [if_neg (by simpa using h), e0]; omega
  rw [if_neg m1]
  by_cases m2 : mode = 2
  · subst m2
    rw [if_pos rfl]
    cases neg with
    | false => rw [if_neg (by simp), e0]; simp; omega
    | true =>
      by_cases h : 0 < r
      · rw [if_pos (by simpa using h), e]; simp; omega
      · rw [if_neg (by simpa using h), e0]; simp; omega
  rw [if_neg m2]
  by_cases m3 : mode = 3
  · subst m3
    rw [if_pos rfl]
    by_cases h : cmpI (r + r) B ≥ 0
    · rw [if_pos (decide_eq_true h), e]; omega
    · rw [if_neg (by simpa using h), e0]; omega
  rw [if_neg m3]
  by_cases m4 : mode = 4
  · subst m4
    rw [if_pos rfl]
    by_cases h : (decide (cmpI (r + r) B > 0) || (cmpI (r + r) B == 0 && decide (q % 2 = 1))) = true
    · rw [if_pos h, e]
      have : 0 ≤ cmpI (r + r) B := by
        simp only [Bool.or_eq_true, decide_eq_true_eq, Bool.and_eq_true, beq_iff_eq] at h
        omega
      omega
    · rw [if_neg h, e0]
      have : ¬ 0 < cmpI (r + r) B := fun g => h (by simp [g])
      omega
  rw [if_neg m4, if_neg (by decide), e0]
  omega
end Go.Ev
end

/- Rounded numbers with their signs. No condition. -/
noncomputable section
namespace Go.Ev
open Go.Proofs
set_option linter.unusedVariables false
set_option maxRecDepth 100000

theorem rZ_off (x : Int) {B : Nat} (hB : 0 < B) (mode : Int) :
    rZ x B mode * B < x + B ∧ x < rZ x B mode * B + B ∧
    (mode = 3 ∨ mode = 4 → 2 * (rZ x B mode * B) ≤ 2 * x + B ∧ 2 * x ≤ 2 * (rZ x B mode * B) + B) ∧
    (mode = 0 → (0 ≤ x → rZ x B mode * B ≤ x) ∧ (x < 0 → x ≤ rZ x B mode * B)) ∧
    (mode = 1 → (0 ≤ x → x ≤ rZ x B mode * B) ∧ (x < 0 → rZ x B mode * B ≤ x)) ∧ (mode = 2 → rZ x B mode * B ≤ x) := by
  unfold rZ
  by_cases h : x < 0
  · rw [if_pos h]
    have := roundN_off true x.natAbs hB mode
    generalize roundN true x.natAbs B mode = q at *
    have e : -(q : Int) * (B : Int) = -((q * B : Nat) : Int) := by push_cast; exact Int.neg_mul _ _
    rw [e]
    generalize q * B = p at *
    simp at this
    omega
  · rw [if_neg h]
    have := roundN_off false x.natAbs hB mode
    generalize roundN false x.natAbs B mode = q at *
    have e : (q : Int) * (B : Int) = ((q * B : Nat) : Int) := by push_cast; rfl
    rw [e]
    generalize q * B = p at *
    simp at this
    omega
theorem rZ_abs (x : Int) (B : Nat) (mode : Int) : (rZ x B mode).natAbs ≤ x.natAbs + 1 := by
  unfold rZ
  split
  · have := roundN_le true x.natAbs B mode; omega
  · have := roundN_le false x.natAbs B mode; omega
theorem ofD_mk {x S : Int} (h1 : 0 ≤ S) (h2 : S ≤ 9) : ofD x S = mkD x S := by
  unfold ofD mkD
  congr 1
  omega
theorem mkD_c {x S : Int} (h : x.natAbs < 10 ^ 30) : (mkD x S).c < w128 := Nat.lt_trans h (by decide)
/-- The sign of a number. -/
def sgI (x : Int) : Int := if x = 0 then 0 else if x < 0 then -1 else 1
theorem sgI_cases (x : Int) : (x = 0 ∧ sgI x = 0) ∨ (x < 0 ∧ sgI x = -1) ∨ (0 < x ∧ sgI x = 1) := by
  unfold sgI
  by_cases h : x = 0
  · rw [if_pos h]; exact .inl ⟨h, rfl⟩
  · rw [if_neg h]
    by_cases g : x < 0
    · rw [if_pos g]; exact .inr (.inl ⟨g, rfl⟩)
    · rw [if_neg g]; exact .inr (.inr ⟨by omega, rfl⟩)
theorem p10i (k : Nat) : ((10 : Int) ^ k) = ((10 ^ k : Nat) : Int) := by push_cast; rfl
end Go.Ev
end

/- QuantUnits walked. No condition. -/
noncomputable section
namespace Go.Ev
open Go.Proofs
set_option linter.unusedVariables false
set_option maxRecDepth 100000

/-- A quotient by a number above 0. -/
theorem divF_mkD {x S T to mode : Int} {y : Nat} (hx : x.natAbs < 10 ^ 30) (hy : y < 10 ^ 30) (hy0 : 0 < y) (s1 : 0 ≤ S) (s2 : S ≤ 9) (t1 : 0 ≤ T) (t2 : T ≤ 9) (o1 : 0 ≤ to) (o2 : to ≤ 9) (m1 : 0 ≤ mode) (m2 : mode ≤ 4) :
    divF (mkD x S) (mkD (y : Int) T) to mode = mkI (rZ (x * 10 ^ (to + T).toNat) (y * 10 ^ S.toNat) mode) to := by
  have hyr : (mkD (y : Int) T).right = true := mkD_right (by simpa using hy) t1 t2
  have hyc : (mkD (y : Int) T).c = y := by simp [mkD]
  rw [divF_eq (mkD_right hx s1 s2) hyr (by rw [hyc]; omega) o1 o2 m1 m2, ← dN_eq _ _ (mkD_right hx s1 s2) hyr (by rw [hyc]; omega) o1, hyc]
  have en : ((mkD x S).neg != (mkD (y : Int) T).neg) = decide (x < 0) := by
    show (decide (x < 0) != decide ((y : Int) < 0)) = _
    rw [decide_eq_false (show ¬ (y : Int) < 0 by omega)]; simp
  rw [en, ← dmade_rZ]
  have e1 : decide (x * 10 ^ (to + T).toNat < 0) = decide (x < 0) := by
    have := p10 (to + T).toNat
    rw [p10i]
    generalize 10 ^ (to + T).toNat = g at *
    refine decide_eq_decide.2 ⟨fun h => ?_, fun h => ?_⟩
    · rcases Int.lt_or_le x 0 with k | k
      · exact k
      · have := Int.mul_nonneg k (show (0 : Int) ≤ (g : Int) by omega); omega
    · exact Int.mul_neg_of_neg_of_pos h (by omega)
  have e2 : (x * 10 ^ (to + T).toNat).natAbs = x.natAbs * 10 ^ (to + T).toNat := by
    rw [Int.natAbs_mul, p10i, Int.natAbs_natCast]
  rw [e1, e2]
  rfl
theorem rZ_mul (x : Int) {B k : Nat} (hB : 0 < B) (hk : 0 < k) (mode : Int) : rZ (x * (k : Int)) (B * k) mode = rZ x B mode := by
  unfold rZ
  have e2 : (x * (k : Int)).natAbs = x.natAbs * k := by rw [Int.natAbs_mul, Int.natAbs_natCast]
  have e1 : x * (k : Int) < 0 ↔ x < 0 := by
    constructor
    · intro h
      rcases Int.lt_or_le x 0 with g | g
      · exact g
      · have := Int.mul_nonneg g (show (0 : Int) ≤ (k : Int) by omega); omega
    · intro h; exact Int.mul_neg_of_neg_of_pos h (by omega)
  rw [e2, roundN_mul true hB hk, roundN_mul false hB hk]
  simp only [e1]
theorem rZ_exact (x : Int) {B : Nat} (hB : 0 < B) (mode : Int) : rZ (x * (B : Int)) B mode = x := by
  have := rZ_mul x (B := 1) (k := B) (by decide) hB mode
  rw [Nat.one_mul] at this
  rw [this]
  unfold rZ
  have e := fun b => roundN_exact b (n := x.natAbs) (b := 1) (by decide) mode
  simp only [Nat.mul_one] at e
  rw [e, e]
  split <;> omega
theorem unitF_mkD {x S T mode : Int} {y : Nat} (hx : x.natAbs < 10 ^ 30) (hy : y < 10 ^ 30) (hy0 : 0 < y) (s1 : 0 ≤ S) (s2 : S ≤ 9) (t1 : 0 ≤ T) (t2 : T ≤ 9) (m1 : 0 ≤ mode) (m2 : mode ≤ 4) :
    unitF (mkD x S) (mkD (y : Int) T) mode = mkI (rZ (x * 10 ^ T.toNat) (y * 10 ^ S.toNat) mode * y) T := by
  have hyr : (mkD (y : Int) T).right = true := mkD_right (by simpa using hy) t1 t2
  have hyc : (mkD (y : Int) T).c = y := by simp [mkD]
  have hys : signF (mkD (y : Int) T) = 1 := by
    rw [sign_mkD (by simpa using hy) t1 t2, if_neg (by omega), if_neg (by omega)]
  unfold unitF
  rw [rightAll_of (by simp; exact ⟨mkD_right hx s1 s2, hyr⟩) (by decide) (by decide) m1 m2, if_neg (by rw [hys]; decide), ← dN_eq _ _ (mkD_right hx s1 s2) hyr (by rw [hyc]; omega) (by decide), hyc, dmade_mk]
  have e1 : decide (x * 10 ^ T.toNat < 0) = decide (x < 0) := by
    have := p10 T.toNat
    rw [p10i]
    generalize 10 ^ T.toNat = g at *
    refine decide_eq_decide.2 ⟨fun h => ?_, fun h => ?_⟩
    · rcases Int.lt_or_le x 0 with k | k
      · exact k
      · have := Int.mul_nonneg k (show (0 : Int) ≤ (g : Int) by omega); omega
    · exact Int.mul_neg_of_neg_of_pos h (by omega)
  have e2 : (x * 10 ^ T.toNat).natAbs = x.natAbs * 10 ^ T.toNat := by
    rw [Int.natAbs_mul, p10i, Int.natAbs_natCast]
  show mkI (if decide (x < 0) = true then -((roundN (decide (x < 0)) (x.natAbs * 10 ^ (0 + T).toNat) (y * 10 ^ S.toNat) mode * y : Nat) : Int) else ((roundN (decide (x < 0)) (x.natAbs * 10 ^ (0 + T).toNat) (y * 10 ^ S.toNat) mode * y : Nat) : Int)) T = _
  rw [Int.zero_add]
  congr 1
  unfold rZ
  rw [e2]
  by_cases h : x < 0
  · rw [decide_eq_true h] at e1 ⊢
    rw [if_pos rfl, if_pos (of_decide_eq_true e1)]
    simp only [Int.natCast_mul]
    exact (Int.neg_mul _ _).symm
  · rw [decide_eq_false h] at e1 ⊢
    rw [if_neg (by decide), if_neg (of_decide_eq_false e1)]
    simp only [Int.natCast_mul]
theorem timesF_mkD {x S T to mode : Int} {y : Nat} (hx : x.natAbs < 10 ^ 30) (hy : y < 10 ^ 30) (s1 : 0 ≤ S) (s2 : S ≤ 9) (t1 : 0 ≤ T) (t2 : T ≤ 9) (o2 : to ≤ 9) (m1 : 0 ≤ mode) (m2 : mode ≤ 4) (ho : S + T ≤ to) :
    timesF (mkD x S) (mkD (y : Int) T) to mode = mkI (x * y * 10 ^ (to - S - T).toNat) to := by
  have hyr : (mkD (y : Int) T).right = true := mkD_right (by simpa using hy) t1 t2
  have hyc : (mkD (y : Int) T).c = y := by simp [mkD]
  rw [timesF_eq (mkD_right hx s1 s2) hyr (by omega) o2 m1 m2, hyc]
  have e3 : to.toNat = (to - S - T).toNat + (S + T).toNat := by omega
  have e4 : (mkD x S).c * y * 10 ^ to.toNat = ((mkD x S).c * y * 10 ^ (to - S - T).toNat) * 10 ^ (S + T).toNat := by
    rw [e3, Nat.pow_add, Nat.mul_assoc ((mkD x S).c * y)]
  have e5 : ((mkD x S).scale + (mkD (y : Int) T).scale).toNat = (S + T).toNat := rfl
  rw [e4, e5, roundN_exact _ (p10 _), dmade_mk]
  congr 1
  have en : ((mkD x S).neg != (mkD (y : Int) T).neg) = decide (x < 0) := by
    show (decide (x < 0) != decide ((y : Int) < 0)) = _
    rw [decide_eq_false (show ¬ (y : Int) < 0 by omega)]; simp
  rw [en]
  have ec : (mkD x S).c = x.natAbs := rfl
  rw [ec, p10i]
  simp only [Int.natCast_mul]
  by_cases h : x < 0
  · rw [decide_eq_true h, if_pos rfl, show ((x.natAbs : Nat) : Int) = -x by omega]
    rw [Int.neg_mul, Int.neg_mul, Int.neg_neg]
  · rw [decide_eq_false h, if_neg (by decide), show ((x.natAbs : Nat) : Int) = x by omega]
end Go.Ev
end

/- Texts: HasPrefix, CutPrefix, Cut at one byte. No condition. -/
noncomputable section
namespace Go.Ev
open Go.Proofs
set_option linter.unusedVariables false
set_option maxRecDepth 100000

/-- A text of these bytes. -/
abbrev sv (l : List UInt8) : Value := .string ⟨l.toArray⟩
theorem sv_bs (t : ByteArray) : Value.string t = sv (bs t) := congrArg Value.string (mk_bs t).symm
theorem str_index {P : Program} {t : TypeId} (hu : P.underlying t = some .string) {l : List UInt8} {i : Nat} (h : i < l.length) (k : IntKind) : evIndex P t (sv l) (.int k (i : Int)) = some (.int .u8 ((l[i].toNat : Nat) : Int)) := by
  show (match P.underlying t, sv l, Value.int k (.ofNat i) with
    | some (.array n e), .agg cs, .int _ (.ofNat i) => match Nat.blt i n, P.info? e with
      | true, some j => partL P e cs.toList (i * j.size)
      | _, _ => none
    | some .string, .string s, .int _ (.ofNat i) => match (bs s)[i]? with
      | some b => some (.int .u8 b.toNat)
      | none => none
    | _, _, _ => none) = _
  rw [hu]
  simp only [bs_mk, List.getElem?_eq_getElem h]
theorem str_slice {P : Program} {t : TypeId} (hu : P.underlying t = some .string) {l : List UInt8} (k1 k2 : IntKind) (lo hi : Option Nat) (h1 : lo.getD 0 ≤ hi.getD l.length) (h2 : hi.getD l.length ≤ l.length) :
    evSliceStr P t (sv l) (bndV k1 lo) (bndV k2 hi) = some (sv ((l.drop (lo.getD 0)).take (hi.getD l.length - lo.getD 0))) := by
  have hb : bnds l.length l.length (bndV k1 lo) (bndV k2 hi) none = some (lo.getD 0, hi.getD l.length, l.length) := by
    unfold bnds
    cases lo <;> cases hi <;> simp only [bndV, Option.getD_none, Option.getD_some] at h1 h2 ⊢
    · rw [bnd_nat h2]
    · rw [bnd_nat h1]
    · rw [bnd_nat h2]; simp only; rw [bnd_nat h1]
  unfold evSliceStr
  rw [hu]
  simp only [bs_mk, hb]
theorem str_take {P : Program} {t : TypeId} (hu : P.underlying t = some .string) {l : List UInt8} (k : IntKind) {j : Nat} (h : j ≤ l.length) : evSliceStr P t (sv l) none (some (.int k (j : Int))) = some (sv (l.take j)) := by
  have := str_slice hu (l := l) k k none (some j) (by simp) (by simpa using h)
  simpa [bndV] using this
theorem str_drop {P : Program} {t : TypeId} (hu : P.underlying t = some .string) {l : List UInt8} (k : IntKind) {j : Nat} (h : j ≤ l.length) : evSliceStr P t (sv l) (some (.int k (j : Int))) none = some (sv (l.drop j)) := by
  have := str_slice hu (l := l) k k (some j) none (by simpa using h) (by simp)
  simp only [bndV, Option.getD_some, Option.getD_none] at this
  rw [this, List.take_of_length_le (by simp)]
theorem sv_eq {P : Program} {t : TypeId} {c : Bool} (a b : List UInt8) : evBin P .eql t c (sv a) (sv b) = some (.bool (a == b)) := str_eq _ _
theorem sv_ne {P : Program} {t : TypeId} {c : Bool} (a b : List UInt8) : evBin P .neq t c (sv a) (sv b) = some (.bool (!(a == b))) := str_ne _ _
def hasP (l p : List UInt8) : Bool := decide (p.length ≤ l.length) && (l.take p.length == p)
theorem hasPrefix_spec (s : St) (l p : List UInt8) : Cw Tryd.prog 88 [sv l, sv p] s fun r s' => s' = s ∧ r = .bool (hasP l p) := by
  refine Cw.enterS Tryd.func88 rfl rfl ?_
  refine Sm.seqW ?_
  conv => whnf
  refine Sm.seqW ?_
  conv => whnf
  unfold hasP
  by_cases h : p.length ≤ l.length
  · have hd : decide ((l.length : Int) ≥ (p.length : Int)) = true := decide_eq_true (by omega)
    repeat (refine Br.yes hd ?_; conv => whnf)
    refine Om.of _ (str_take Tryd.underlying9 .i64 h) ?_
    conv => whnf
    repeat (refine Br.yes hd ?_; conv => whnf)
    refine Om.of _ (sv_eq (l.take p.length) p) ?_
    conv => whnf
    repeat (refine Br.yes hd ?_; conv => whnf)
    refine Sm.ofW ?_
    conv => whnf
    rw [decide_eq_true h]
    exact ⟨rfl, rfl⟩
  · have hd : decide ((l.length : Int) ≥ (p.length : Int)) = false := decide_eq_false (by omega)
    repeat (refine Br.no hd ?_; conv => whnf)
    refine Sm.ofW ?_
    conv => whnf
    rw [decide_eq_false h]
    exact ⟨rfl, rfl⟩
def cutP (l p : List UInt8) : Value := if hasP l p = true then .tuple #[sv (l.drop p.length), .bool true] else .tuple #[sv l, .bool false]
theorem lcutPrefix_spec (s : St) (l p : List UInt8) : Cw Tryd.prog 76 [sv l, sv p] s fun r s' => s' = s ∧ r = cutP l p := by
  refine Cw.enterS Tryd.func76 rfl rfl ?_
  refine Sm.seqW ?_
  conv => whnf
  refine Sm.seq ?_
  refine Sm.seqW ?_
  conv => whnf
  refine (hasPrefix_spec _ l p).mono ?_
  rintro _ s1 ⟨h1, rfl⟩
  obtain rfl := h1.symm
  conv => whnf
  refine Sm.ofW ?_
  conv => whnf
  unfold cutP
  cases h : hasP l p with
  | false =>
    repeat (first | (refine Br.yes (by first | with_reducible rfl | with_reducible exact beq_self_eq_true _ | rfl) ?_; conv => whnf) | (refine Br.no (by first | with_reducible rfl | with_reducible exact bne_self_eq_false _ | rfl) ?_; conv => whnf))
    exact ⟨rfl, rfl⟩
  | true =>
    have hl : p.length ≤ l.length := by
      unfold hasP at h
      simp only [Bool.and_eq_true, decide_eq_true_eq] at h
      exact h.1
    repeat (first | (refine Br.yes (by first | with_reducible rfl | with_reducible exact beq_self_eq_true _ | rfl) ?_; conv => whnf) | (refine Br.no (by first | with_reducible rfl | with_reducible exact bne_self_eq_false _ | rfl) ?_; conv => whnf))
    refine Sm.seqW ?_
    conv => whnf
    refine Om.of _ (str_drop Tryd.underlying9 .i64 hl) ?_
    conv => whnf
    refine Sm.ofW ?_
    conv => whnf
    exact ⟨rfl, rfl⟩
theorem cutPrefix_spec (s : St) (l p : List UInt8) : Cw Tryd.prog 47 [sv l, sv p] s fun r s' => s' = s ∧ r = cutP l p := by
  refine Cw.enterS Tryd.func47 rfl rfl ?_
  refine Sm.seqW ?_
  conv => whnf
  refine Sm.seqW ?_
  conv => whnf
  refine (lcutPrefix_spec _ l p).mono ?_
  rintro r s1 ⟨h1, hr⟩
  obtain rfl := h1.symm
  unfold cutP at hr ⊢
  cases h : hasP l p with
  | false =>
    rw [h] at hr
    subst hr
    conv => whnf
    refine Sm.ofW ?_
    conv => whnf
    exact ⟨rfl, rfl⟩
  | true =>
    rw [h] at hr
    subst hr
    conv => whnf
    refine Sm.ofW ?_
    conv => whnf
    exact ⟨rfl, rfl⟩
end Go.Ev
end

/- Texts: IndexByte, Index and Cut at one byte. No condition. -/
noncomputable section
namespace Go.Ev
open Go.Proofs
set_option linter.unusedVariables false
set_option maxRecDepth 100000

theorem idxL_some {c : Nat} : ∀ {l : List UInt8} {i j : Nat}, idxL c l i = some j → ∃ k, j = i + k ∧ ∃ h : k < l.length, l[k].toNat = c ∧ ∀ m, (hm : m < k) → (l[m]'(by omega)).toNat ≠ c
  | [], i, j, h => by cases h
  | x :: xs, i, j, h => by
    unfold idxL at h
    split at h
    · rename_i hb
      injection h with h
      exact ⟨0, by omega, by simp, Nat.eq_of_beq_eq_true hb, fun m hm => by omega⟩
    · rename_i hb
      obtain ⟨k, h1, h2, h3, h4⟩ := idxL_some h
      refine ⟨k + 1, by omega, by simp; omega, by simpa using h3, fun m hm => ?_⟩
      cases m with
      | zero => intro e; rw [show ((x :: xs)[0]'(by simp)) = x from rfl] at e; rw [e, Nat.beq_refl] at hb; cases hb
      | succ m => simpa using h4 m (by omega)
theorem idxL_none {c : Nat} : ∀ {l : List UInt8} {i : Nat}, idxL c l i = none → ∀ x ∈ l, x.toNat ≠ c
  | [], i, h => by simp
  | y :: ys, i, h => by
    unfold idxL at h
    split at h
    · cases h
    · rename_i hb
      intro x hx
      rcases List.mem_cons.1 hx with rfl | hx
      · intro e; rw [e, Nat.beq_refl] at hb; cases hb
      · exact idxL_none h x hx
def ixI (o : Option Nat) : Int := match o with
  | some i => (i : Int)
  | none => -1
theorem ibs_spec (s : St) (l : List UInt8) (c : UInt8) : Cw Tryd.prog 108 [sv l, .int .u8 ((c.toNat : Nat) : Int)] s fun r s' => s' = s ∧ r = .int .i64 (ixI (idxL c.toNat l 0)) := by
  refine ⟨⟨_, s, ⟨rfl, rfl⟩, .inr ⟨rfl, _, Tryd.func108, rfl, ?_⟩⟩⟩
  have hc : Nat.blt c.toNat 256 = true := blt_of c.toNat_lt
  have : evExt "internal/bytealg.IndexByteString" [sv l, .int .u8 ((c.toNat : Nat) : Int)] = some (.int .i64 (ixI (idxL c.toNat l 0))) := by
    unfold evExt
    rw [show ("internal/bytealg.IndexByteString" == "internal/bytealg.IndexByteString") = true from rfl]
    show (match Nat.blt c.toNat 256 with
      | true => match idxL c.toNat (bs ⟨l.toArray⟩) 0 with
        | some i => some (Value.int .i64 (.ofNat i))
        | none => some (Value.int .i64 (.negSucc 0))
      | false => none) = _
    rw [hc, bs_mk]
    cases idxL c.toNat l 0 <;> rfl
  exact this
theorem indexByte_spec (s : St) (l : List UInt8) (c : UInt8) : Cw Tryd.prog 100 [sv l, .int .u8 ((c.toNat : Nat) : Int)] s fun r s' => s' = s ∧ r = .int .i64 (ixI (idxL c.toNat l 0)) := by
  refine Cw.enterS Tryd.func100 rfl rfl ?_
  refine Sm.seqW ?_
  conv => whnf
  refine Sm.seqW ?_
  conv => whnf
  refine (ibs_spec _ l c).mono ?_
  rintro _ s1 ⟨h1, rfl⟩
  obtain rfl := h1.symm
  conv => whnf
  refine Sm.ofW ?_
  conv => whnf
  exact ⟨rfl, rfl⟩
theorem index1_spec (s : St) (l : List UInt8) (c : UInt8) : Cw Tryd.prog 89 [sv l, sv [c]] s fun r s' => s' = s ∧ r = .int .i64 (ixI (idxL c.toNat l 0)) := by
  refine Cw.enterS Tryd.func89 rfl rfl ?_
  refine Sm.seqW ?_
  conv => whnf
  refine Sm.seqW ?_
  conv => whnf
  refine Sm.seq ?_
  refine Sm.block ?_
  refine Sm.seqW ?_
  conv => whnf
  repeat (first | (refine Br.yes (by first | with_reducible rfl | with_reducible exact beq_self_eq_true _ | rfl) ?_; conv => whnf) | (refine Br.no (by first | with_reducible rfl | with_reducible exact bne_self_eq_false _ | rfl) ?_; conv => whnf))
  refine Om.of _ (sv_eq [c] l) ?_
  conv => whnf
  repeat (first | (refine Br.yes (by first | with_reducible rfl | with_reducible exact beq_self_eq_true _ | rfl) ?_; conv => whnf) | (refine Br.no (by first | with_reducible rfl | with_reducible exact bne_self_eq_false _ | rfl) ?_; conv => whnf))
  refine Sm.ofW ?_
  conv => whnf
  by_cases he : l = [c]
  · subst he
    have hq : (([c] : List UInt8) == [c]) = true := beq_self_eq_true _
    rw [hq]
    repeat (first | (refine Br.yes (by first | with_reducible rfl | with_reducible exact beq_self_eq_true _ | rfl) ?_; conv => whnf) | (refine Br.no (by first | with_reducible rfl | with_reducible exact bne_self_eq_false _ | rfl) ?_; conv => whnf))
    have hi : ixI (idxL c.toNat [c] 0) = 0 := by
      unfold idxL
      rw [Nat.beq_refl]; rfl
    rw [hi]
    exact ⟨rfl, rfl⟩
  have hq : (([c] : List UInt8) == l) = false := beq_eq_false_iff_ne.2 fun h => he h.symm
  rw [hq]
  repeat (first | (refine Br.yes (by first | with_reducible rfl | with_reducible exact beq_self_eq_true _ | rfl) ?_; conv => whnf) | (refine Br.no (by first | with_reducible rfl | with_reducible exact bne_self_eq_false _ | rfl) ?_; conv => whnf))
  refine Om.of _ (str_index Tryd.underlying9 (l := [c]) (i := 0) (by simp) .i64) ?_
  conv => whnf
  refine (indexByte_spec _ l c).mono ?_
  rintro _ s1 ⟨h1, rfl⟩
  obtain rfl := h1.symm
  conv => whnf
  exact ⟨rfl, rfl⟩
end Go.Ev
end

/- Texts: Cut at one byte; a set of figures; Trim. No condition. -/
noncomputable section
namespace Go.Ev
open Go.Proofs
set_option linter.unusedVariables false
set_option maxRecDepth 100000

def cutF (l : List UInt8) (c : UInt8) : Value := match idxL c.toNat l 0 with
  | some i => .tuple #[sv (l.take i), sv (l.drop (i + 1)), .bool true]
  | none => .tuple #[sv l, sv [], .bool false]
theorem lcut_spec (s : St) (l : List UInt8) (hl : l.length < 4611686018427387904) (c : UInt8) : Cw Tryd.prog 77 [sv l, sv [c]] s fun r s' => s' = s ∧ r = cutF l c := by
  refine Cw.enterS Tryd.func77 rfl rfl ?_
  refine Sm.seqW ?_
  conv => whnf
  refine Sm.seq ?_
  refine Sm.seqW ?_
  conv => whnf
  refine (index1_spec _ l c).mono ?_
  rintro _ s1 ⟨h1, rfl⟩
  obtain rfl := h1.symm
  conv => whnf
  refine Sm.seqW ?_
  conv => whnf
  refine Sm.ofW ?_
  conv => whnf
  unfold cutF
  cases hi : idxL c.toNat l 0 with
  | none =>
    repeat (first | (refine Br.yes (by first | with_reducible rfl | with_reducible exact beq_self_eq_true _ | rfl) ?_; conv => whnf) | (refine Br.no (by first | with_reducible rfl | with_reducible exact bne_self_eq_false _ | rfl) ?_; conv => whnf))
    refine Sm.seqW ?_
    conv => whnf
    refine Sm.ofW ?_
    conv => whnf
    exact ⟨rfl, rfl⟩
  | some i =>
    obtain ⟨k, h1, h2, h3, h4⟩ := idxL_some hi
    have hk : i < l.length := by omega
    have hd : decide (ixI (some i) ≥ 0) = true := decide_eq_true (by show (i : Int) ≥ 0; omega)
    refine Br.yes (hd) ?_
    conv => whnf
    refine ⟨[0, 0, 3, 0, 0, 0, 32, 112, 248, 7, 1023, 2047], by decide +kernel, by decide +kernel, ?_⟩
    conv => whnf
    have e1 : IntKind.i64.wrap (ixI (some i) + (([c] : List UInt8).length : Int)) = ((i + 1 : Nat) : Int) := by
      show IntKind.i64.wrap ((i : Int) + 1) = _
      rw [wi64 (by omega) (by omega)]; push_cast; rfl
    refine Om.of _ (str_take Tryd.underlying9 (l := l) (j := i) .i64 (by omega)) ?_
    conv => whnf
    have e2 : IntKind.i64.wrap (ixI (some i) + ((bs ⟨#[c]⟩).length : Int)) = ((i + 1 : Nat) : Int) := e1
    rw [e2]
    refine Om.of _ (str_drop Tryd.underlying9 (l := l) (j := i + 1) .i64 (by omega)) ?_
    conv => whnf
    exact ⟨rfl, rfl⟩
theorem cut_spec (s : St) (l : List UInt8) (hl : l.length < 4611686018427387904) (c : UInt8) : Cw Tryd.prog 48 [sv l, sv [c]] s fun r s' => s' = s ∧ r = cutF l c := by
  refine Cw.enterS Tryd.func48 rfl rfl ?_
  refine Sm.seqW ?_
  conv => whnf
  refine Sm.seqW ?_
  conv => whnf
  refine (lcut_spec _ l hl c).mono ?_
  rintro r s1 ⟨h1, hr⟩
  obtain rfl := h1.symm
  unfold cutF at hr ⊢
  cases hi : idxL c.toNat l 0 with
  | none =>
    rw [hi] at hr
    subst hr
    conv => whnf
    refine Sm.ofW ?_
    conv => whnf
    exact ⟨rfl, rfl⟩
  | some i =>
    rw [hi] at hr
    subst hr
    conv => whnf
    refine Sm.ofW ?_
    conv => whnf
    exact ⟨rfl, rfl⟩
/-! ### the figures' set -/
def isD (b : UInt8) : Bool := decide (48 ≤ b.toNat ∧ b.toNat ≤ 57)
def natB (l : List Bool) : List Value := l.map Value.bool
def figB (i : Nat) : List Bool := (List.range 256).map fun k => decide (48 ≤ k ∧ k < 48 + i)
abbrev figs : List UInt8 := [48, 49, 50, 51, 52, 53, 54, 55, 56, 57]
theorem figB_len (i : Nat) : (figB i).length = 256 := by simp [figB]
theorem natB_len (l : List Bool) : (natB l).length = l.length := by simp [natB]
theorem natB_set (l : List Bool) (k : Nat) (b : Bool) : (natB l).set k (.bool b) = natB (l.set k b) := by simp [natB, List.map_set]
theorem figB_step : ∀ i, i < 10 → (figB i).set (48 + i) true = figB (i + 1) := by decide +kernel
theorem figs_at : ∀ i, (h : i < 10) → (figs[i]'h).toNat = 48 + i := by decide +kernel
theorem figB_get {k : Nat} (h : k < 256) : (natB (figB 10))[k]? = some (.bool (decide (48 ≤ k ∧ k ≤ 57))) := by
  unfold natB figB
  rw [List.map_map, List.getElem?_map, List.getElem?_range h]
  show some (Value.bool (decide (48 ≤ k ∧ k < 48 + 10))) = _
  have : decide (48 ≤ k ∧ k < 48 + 10) = decide (48 ≤ k ∧ k ≤ 57) := decide_eq_decide.2 (by omega)
  rw [this]
theorem asciiSet_spec {z : St} (wf : WF z) : Cw Tryd.prog 92 [sv figs] z fun r s' => K0 z s' ∧ r = .tuple #[.agg (natB (figB 10)).toArray, .bool true] := by
  have hp : Hp (fun _ => False) z [] [] z := Hp.start _ wf _ (by simp)
  refine Cw.enterS Tryd.func92 rfl rfl ?_
  refine Sm.seqW ?_
  conv => whnf
  refine hp.alloc (cs := natB (figB 0)) (e := 1) rfl rfl rfl (by kernel_rfl) rfl ?_
  clear hp
  intro p2 s hp _
  conv => whnf
  refine Sm.live [0, 2] ?_
  conv => whnf
  refine Sm.seq ?_
  refine Sm.seqW ?_
  conv => whnf
  refine Sm.block ?_
  refine Sm.loop ?_
  refine Lp.ofS (α := Nat) (fun i => [(0, sv figs), (2, .pointer (some ⟨p2, 0, none⟩)), (4, .int .i64 (i : Int))])
    (fun i s' => i ≤ 10 ∧ Hp (fun _ => False) z [] [blkA p2 p2 (natB (figB i)) 1] s') (fun i => 10 - i) ?_ 0 (subK_ok (by refine ⟨rfl, rfl, rfl, trivial⟩)) ⟨by decide, hp⟩
  clear hp
  rintro i s ⟨hi, hp⟩
  refine Sm.seq ?_
  refine Sm.seqW ?_
  conv => whnf
  refine Sm.ofW ?_
  conv => whnf
  refine Br.mk (fun hc => ?_) (fun hc => ?_)
  · have hc : i < 10 := by have h : (i : Int) < 10 := of_decide_eq_true hc; omega
    conv => whnf
    refine Sm.seq ?_
    refine Sm.block ?_
    refine Sm.seqW ?_
    conv => whnf
    refine Om.of _ (str_index Tryd.underlying9 (l := figs) (i := i) hc .i64) ?_
    conv => whnf
    rw [figs_at i hc]
    refine Sm.live [0, 2, 4, 5] ?_
    conv => whnf
    refine Sm.seq ?_
    refine Sm.seqW ?_
    conv => whnf
    refine Sm.ofW ?_
    conv => whnf
    refine Br.no (decide_eq_false (by omega)) ?_
    conv => whnf
    refine Sm.ofW ?_
    conv => whnf
    have hix : evIndexAddr Tryd.prog 109 (.pointer (some ⟨p2, 0, none⟩)) (.int .u8 ((48 + i : Nat) : Int)) = some (.pointer (some ⟨p2, 0 + (48 + i), none⟩)) := ixA Tryd.underlying109 (by rfl) rfl .u8 (by omega)
    refine Om.of _ (hix) ?_
    conv => whnf
    refine hp.store (by repeat (first | exact Rm.here | apply Rm.there)) (by rw [natB_len, figB_len]; omega) rfl rfl rfl rfl ?_
    clear hp
    intro s hp _
    rw [show 0 + (48 + i) = 48 + i by omega, natB_set, figB_step i hc] at hp
    conv => whnf
    refine Sm.ofW ?_
    conv => whnf
    have ei : IntKind.i64.wrap ((i : Int) + 1) = ((i + 1 : Nat) : Int) := by rw [wi64 (by omega) (by omega)]; push_cast; rfl
    exact ⟨i + 1, by (show 10 - (i + 1) < 10 - i); omega, subK_ok (by refine ⟨rfl, rfl, congrArg (fun x => some (Value.int .i64 x)) ei, trivial⟩), by omega, hp⟩
  · have hc : ¬ i < 10 := by have h : ¬ (i : Int) < 10 := of_decide_eq_false hc; omega
    obtain rfl : i = 10 := by omega
    conv => whnf
    refine Sm.seqW ?_
    conv => whnf
    refine hp.loadA (l := natB (figB 10)) (by repeat (first | exact Has.here | apply Has.there | (apply Has.swap; repeat (first | exact HasR.here | apply HasR.there)))) rfl (sl_all (by rw [natB_len, figB_len]; rfl)) rfl rfl ?_
    conv => whnf
    refine hp.storeW (vs := natB (figB 10)) rfl (by repeat (first | exact Rm.here | apply Rm.there)) rfl rfl (by rw [natB_len, figB_len]; rfl) (by kernel_rfl) ?_
    clear hp
    intro s hp _
    conv => whnf
    refine Sm.ofW ?_
    conv => whnf
    refine hp.loadA (l := natB (figB 10)) (by repeat (first | exact Has.here | apply Has.there | (apply Has.swap; repeat (first | exact HasR.here | apply HasR.there)))) rfl (sl_all (by rw [natB_len, figB_len]; rfl)) rfl rfl ?_
    conv => whnf
    exact ⟨hp.fr, rfl⟩
theorem contains_spec {s : St} {k p e : Nat} (hb : Blk s k p (natB (figB 10)) e) (c : UInt8) : Cw Tryd.prog 104 [.pointer (some ⟨p, 0, none⟩), .int .u8 ((c.toNat : Nat) : Int)] s fun r s' => s' = s ∧ r = .bool (isD c) := by
  have hc := c.toNat_lt
  refine Cw.enterS Tryd.func104 rfl rfl ?_
  refine Sm.seqW ?_
  conv => whnf
  refine Sm.seqW ?_
  conv => whnf
  have hix : evIndexAddr Tryd.prog 109 (.pointer (some ⟨p, 0, none⟩)) (.int .u8 ((c.toNat : Nat) : Int)) = some (.pointer (some ⟨p, 0 + c.toNat, none⟩)) := ixA Tryd.underlying109 (by rfl) rfl .u8 hc
  refine Om.of _ (hix) ?_
  conv => whnf
  refine Om.of _ (load_cell (v := .bool (isD c)) Tryd.underlying4 rfl rfl hb.rd (by rw [Nat.zero_add]; exact figB_get hc)) ?_
  conv => whnf
  refine Sm.ofW ?_
  conv => whnf
  exact ⟨rfl, rfl⟩
end Go.Ev
end

/- Texts: Trim of figures; dec.run. No condition. -/
noncomputable section
namespace Go.Ev
open Go.Proofs
set_option linter.unusedVariables false
set_option maxRecDepth 100000

def dropR (l : List UInt8) : List UInt8 := (l.reverse.dropWhile isD).reverse
theorem dropR_snoc (l : List UInt8) {c : UInt8} (h : isD c = true) : dropR (l ++ [c]) = dropR l := by simp [dropR, h]
theorem dropR_keep (l : List UInt8) {c : UInt8} (h : isD c = false) : dropR (l ++ [c]) = l ++ [c] := by simp [dropR, h]
theorem dw_all : ∀ L : List UInt8, (∀ x ∈ L.dropWhile isD, isD x = true) → ∀ x ∈ L, isD x = true
  | [], _ => by simp
  | a :: L, h => by
    by_cases ha : isD a = true
    · rw [List.dropWhile_cons_of_pos ha] at h
      intro x hx
      rcases List.mem_cons.1 hx with rfl | hx
      · exact ha
      · exact dw_all L h x hx
    · rw [List.dropWhile_cons_of_neg ha] at h
      exact absurd (h a (by simp)) ha
theorem dw_nil : ∀ L : List UInt8, L.dropWhile isD = [] ↔ ∀ x ∈ L, isD x = true
  | [] => by simp
  | a :: L => by
    by_cases ha : isD a = true
    · rw [List.dropWhile_cons_of_pos ha, dw_nil L]
      simp [ha]
    · rw [List.dropWhile_cons_of_neg ha]
      simp [ha]
theorem trim_nil (l : List UInt8) : ((dropR l).dropWhile isD == []) = l.all isD := by
  rw [Bool.eq_iff_iff, beq_iff_eq, dw_nil, List.all_eq_true]
  unfold dropR
  constructor
  · intro h x hx
    exact dw_all l.reverse (fun y hy => h y (by simpa using hy)) x (by simpa using hx)
  · intro h x hx
    rw [List.mem_reverse] at hx
    exact h x (by simpa using (List.dropWhile_sublist isD).subset hx)
theorem trimLeft_spec {s : St} {k p e : Nat} (hb : Blk s k p (natB (figB 10)) e) (l : List UInt8) : Cw Tryd.prog 93 [sv l, .pointer (some ⟨p, 0, none⟩)] s fun r s' => s' = s ∧ r = sv (l.dropWhile isD) := by
  refine Cw.enterS Tryd.func93 rfl rfl ?_
  refine Sm.seqW ?_
  conv => whnf
  refine Sm.seq ?_
  refine Sm.block ?_
  refine Sm.loop ?_
  refine Lp.ofS (α := List UInt8) (fun m => [(0, sv m), (1, .pointer (some ⟨p, 0, none⟩))]) (fun m s' => s' = s ∧ l.dropWhile isD = m.dropWhile isD) (fun m => m.length) ?_ l (subK_ok (by refine ⟨rfl, rfl, trivial⟩)) ⟨rfl, rfl⟩
  rintro m s1 ⟨h1, hm⟩
  obtain rfl := h1.symm
  cases m with
  | nil =>
    refine Sm.seq ?_
    refine Sm.seqW ?_
    conv => whnf
    refine Sm.ofW ?_
    conv => whnf
    repeat (first | (refine Br.yes (by first | with_reducible rfl | with_reducible exact beq_self_eq_true _ | rfl) ?_; conv => whnf) | (refine Br.no (by first | with_reducible rfl | with_reducible exact bne_self_eq_false _ | rfl) ?_; conv => whnf))
    refine Sm.seqW ?_
    conv => whnf
    refine Sm.ofW ?_
    conv => whnf
    exact ⟨rfl, by rw [hm]; rfl⟩
  | cons c m =>
    have hd : decide ((((c :: m) : List UInt8).length : Int) > 0) = true := decide_eq_true (by simp)
    refine Sm.seq ?_
    refine Sm.seqW ?_
    conv => whnf
    refine Sm.ofW ?_
    conv => whnf
    refine Br.yes (hd) ?_
    conv => whnf
    refine Sm.block ?_
    refine Sm.seq ?_
    refine Sm.seqW ?_
    conv => whnf
    refine Om.of _ (str_index Tryd.underlying9 (l := c :: m) (i := 0) (by simp) .i64) ?_
    conv => whnf
    refine (contains_spec hb c).mono ?_
    rintro _ s1 ⟨h1, rfl⟩
    obtain rfl := h1.symm
    conv => whnf
    refine Sm.ofW ?_
    conv => whnf
    cases hcd : isD c with
    | false =>
      repeat (first | (refine Br.yes (by first | with_reducible rfl | with_reducible exact beq_self_eq_true _ | rfl) ?_; conv => whnf) | (refine Br.no (by first | with_reducible rfl | with_reducible exact bne_self_eq_false _ | rfl) ?_; conv => whnf))
      refine Sm.seqW ?_
      conv => whnf
      refine Sm.ofW ?_
      conv => whnf
      refine ⟨rfl, ?_⟩
      rw [hm, List.dropWhile_cons_of_neg (by rw [hcd]; decide)]
      rfl
    | true =>
      repeat (first | (refine Br.yes (by first | with_reducible rfl | with_reducible exact beq_self_eq_true _ | rfl) ?_; conv => whnf) | (refine Br.no (by first | with_reducible rfl | with_reducible exact bne_self_eq_false _ | rfl) ?_; conv => whnf))
      refine Sm.ofW ?_
      conv => whnf
      refine Om.of _ (str_drop Tryd.underlying9 (l := c :: m) (j := 1) .i64 (by simp)) ?_
      conv => whnf
      exact ⟨m, by simp, subK_ok (by refine ⟨rfl, rfl, trivial⟩), rfl, by rw [hm, List.dropWhile_cons_of_pos hcd]⟩
theorem trimRight_spec {s : St} {k p e : Nat} (hb : Blk s k p (natB (figB 10)) e) (l : List UInt8) (hl : l.length < 4611686018427387904) : Cw Tryd.prog 94 [sv l, .pointer (some ⟨p, 0, none⟩)] s fun r s' => s' = s ∧ r = sv (dropR l) := by
  refine Cw.enterS Tryd.func94 rfl rfl ?_
  refine Sm.seqW ?_
  conv => whnf
  refine Sm.seq ?_
  refine Sm.block ?_
  refine Sm.loop ?_
  refine Lp.ofS (α := List UInt8) (fun m => [(0, sv m), (1, .pointer (some ⟨p, 0, none⟩))]) (fun m s' => s' = s ∧ m.length ≤ l.length ∧ dropR l = dropR m) (fun m => m.length) ?_ l (subK_ok (by refine ⟨rfl, rfl, trivial⟩)) ⟨rfl, Nat.le_refl _, rfl⟩
  rintro m s1 ⟨h1, hml, hm⟩
  obtain rfl := h1.symm
  by_cases h0 : m = []
  · subst h0
    refine Sm.seq ?_
    refine Sm.seqW ?_
    conv => whnf
    refine Sm.ofW ?_
    conv => whnf
    repeat (first | (refine Br.yes (by first | with_reducible rfl | with_reducible exact beq_self_eq_true _ | rfl) ?_; conv => whnf) | (refine Br.no (by first | with_reducible rfl | with_reducible exact bne_self_eq_false _ | rfl) ?_; conv => whnf))
    refine Sm.seqW ?_
    conv => whnf
    refine Sm.ofW ?_
    conv => whnf
    exact ⟨rfl, by rw [hm]; rfl⟩
  · obtain ⟨m, c, rfl⟩ : ∃ m' c, m = m' ++ [c] := ⟨m.dropLast, m.getLast h0, (List.dropLast_concat_getLast h0).symm⟩
    have hlen : (m ++ [c]).length = m.length + 1 := by simp
    have hd : decide (((m ++ [c]).length : Int) > 0) = true := decide_eq_true (by omega)
    have ek : IntKind.i64.wrap (((bs ⟨(m ++ [c]).toArray⟩).length : Int) - 1) = (m.length : Int) := by rw [bs_mk, hlen, wi64 (by omega) (by omega)]; omega
    have hg : (m ++ [c])[m.length]'(by omega) = c := by simp
    refine Sm.seq ?_
    refine Sm.seqW ?_
    conv => whnf
    refine Sm.ofW ?_
    conv => whnf
    refine Br.yes (hd) ?_
    conv => whnf
    refine Sm.block ?_
    refine Sm.seq ?_
    refine Sm.seqW ?_
    conv => whnf
    rw [ek]
    refine Om.of _ (str_index Tryd.underlying9 (l := m ++ [c]) (i := m.length) (by omega) .i64) ?_
    conv => whnf
    rw [hg]
    refine (contains_spec hb c).mono ?_
    rintro _ s1 ⟨h1, rfl⟩
    obtain rfl := h1.symm
    conv => whnf
    refine Sm.ofW ?_
    conv => whnf
    cases hcd : isD c with
    | false =>
      repeat (first | (refine Br.yes (by first | with_reducible rfl | with_reducible exact beq_self_eq_true _ | rfl) ?_; conv => whnf) | (refine Br.no (by first | with_reducible rfl | with_reducible exact bne_self_eq_false _ | rfl) ?_; conv => whnf))
      refine Sm.seqW ?_
      conv => whnf
      refine Sm.ofW ?_
      conv => whnf
      refine ⟨rfl, ?_⟩
      rw [hm, dropR_keep m hcd]
      rfl
    | true =>
      repeat (first | (refine Br.yes (by first | with_reducible rfl | with_reducible exact beq_self_eq_true _ | rfl) ?_; conv => whnf) | (refine Br.no (by first | with_reducible rfl | with_reducible exact bne_self_eq_false _ | rfl) ?_; conv => whnf))
      refine Sm.ofW ?_
      conv => whnf
      rw [ek]
      refine Om.of _ (str_take Tryd.underlying9 (l := m ++ [c]) (j := m.length) .i64 (by omega)) ?_
      conv => whnf
      have ht : (m ++ [c]).take m.length = m := by simp
      rw [ht]
      conv => whnf
      exact ⟨m, by (show m.length < (m ++ [c]).length); omega, subK_ok (by refine ⟨rfl, rfl, trivial⟩), rfl, by omega, by rw [hm, dropR_snoc m hcd]⟩
theorem trimF_spec {z : St} (wf : WF z) (l : List UInt8) (hl : l.length < 4611686018427387904) : Cw Tryd.prog 78 [sv l, sv figs] z fun r s' => K0 z s' ∧ r = sv ((dropR l).dropWhile isD) := by
  have hp : Hp (fun _ => False) z [] [] z := Hp.start _ wf _ (by simp)
  refine Cw.enterS Tryd.func78 rfl rfl ?_
  refine Sm.seqW ?_
  conv => whnf
  refine Sm.seq ?_
  refine Sm.seqW ?_
  conv => whnf
  refine Om.of _ (sv_eq l []) ?_
  conv => whnf
  by_cases h0 : l = []
  · subst h0
    have hq : (([] : List UInt8) == []) = true := rfl
    rw [hq]
    repeat (first | (refine Br.yes (by first | with_reducible rfl | with_reducible exact beq_self_eq_true _ | rfl) ?_; conv => whnf) | (refine Br.no (by first | with_reducible rfl | with_reducible exact bne_self_eq_false _ | rfl) ?_; conv => whnf))
    refine Sm.ofW ?_
    conv => whnf
    repeat (first | (refine Br.yes (by first | with_reducible rfl | with_reducible exact beq_self_eq_true _ | rfl) ?_; conv => whnf) | (refine Br.no (by first | with_reducible rfl | with_reducible exact bne_self_eq_false _ | rfl) ?_; conv => whnf))
    exact ⟨hp.fr, rfl⟩
  have hq : (l == []) = false := beq_eq_false_iff_ne.2 h0
  rw [hq]
  repeat (first | (refine Br.yes (by first | with_reducible rfl | with_reducible exact beq_self_eq_true _ | rfl) ?_; conv => whnf) | (refine Br.no (by first | with_reducible rfl | with_reducible exact bne_self_eq_false _ | rfl) ?_; conv => whnf))
  refine Om.of _ (sv_eq figs []) ?_
  conv => whnf
  repeat (first | (refine Br.yes (by first | with_reducible rfl | with_reducible exact beq_self_eq_true _ | rfl) ?_; conv => whnf) | (refine Br.no (by first | with_reducible rfl | with_reducible exact bne_self_eq_false _ | rfl) ?_; conv => whnf))
  refine Sm.ofW ?_
  conv => whnf
  repeat (first | (refine Br.yes (by first | with_reducible rfl | with_reducible exact beq_self_eq_true _ | rfl) ?_; conv => whnf) | (refine Br.no (by first | with_reducible rfl | with_reducible exact bne_self_eq_false _ | rfl) ?_; conv => whnf))
  refine Sm.seq ?_
  refine Sm.seqW ?_
  conv => whnf
  repeat (first | (refine Br.yes (by first | with_reducible rfl | with_reducible exact beq_self_eq_true _ | rfl) ?_; conv => whnf) | (refine Br.no (by first | with_reducible rfl | with_reducible exact bne_self_eq_false _ | rfl) ?_; conv => whnf))
  refine Sm.ofW ?_
  conv => whnf
  repeat (first | (refine Br.yes (by first | with_reducible rfl | with_reducible exact beq_self_eq_true _ | rfl) ?_; conv => whnf) | (refine Br.no (by first | with_reducible rfl | with_reducible exact bne_self_eq_false _ | rfl) ?_; conv => whnf))
  refine Sm.seq ?_
  refine Sm.seqW ?_
  conv => whnf
  refine hp.call (asciiSet_spec hp.wf) ?_
  clear hp
  rintro _ s rfl hp _
  conv => whnf
  refine hp.alloc (cs := natB (figB 0)) (e := 1) rfl rfl rfl (by kernel_rfl) rfl ?_
  clear hp
  intro p5 s hp _
  conv => whnf
  refine hp.storeW (C := natB (figB 0)) (vs := natB (figB 10)) rfl (by repeat (first | exact Rm.here | apply Rm.there)) (by rw [natB_len, natB_len, figB_len, figB_len]) rfl (by rw [natB_len, figB_len]; rfl) (by kernel_rfl) ?_
  clear hp
  intro s hp _
  conv => whnf
  refine Sm.seqW ?_
  conv => whnf
  refine Sm.ofW ?_
  conv => whnf
  repeat (first | (refine Br.yes (by first | with_reducible rfl | with_reducible exact beq_self_eq_true _ | rfl) ?_; conv => whnf) | (refine Br.no (by first | with_reducible rfl | with_reducible exact bne_self_eq_false _ | rfl) ?_; conv => whnf))
  refine (trimRight_spec (hp.blk (k := p5) (by repeat (first | exact Has.here | apply Has.there | (apply Has.swap; repeat (first | exact HasR.here | apply HasR.there))))) l hl).mono ?_
  rintro _ s1 ⟨h1, rfl⟩
  obtain rfl := h1.symm
  conv => whnf
  refine (trimLeft_spec (hp.blk (k := p5) (by repeat (first | exact Has.here | apply Has.there | (apply Has.swap; repeat (first | exact HasR.here | apply HasR.there))))) (dropR l)).mono ?_
  rintro _ s1 ⟨h1, rfl⟩
  obtain rfl := h1.symm
  conv => whnf
  exact ⟨hp.fr, rfl⟩
def runF (l : List UInt8) (most : Nat) : Bool := !(l == []) && (decide (l.length ≤ most) && l.all isD)
theorem run_spec {z : St} (wf : WF z) (l : List UInt8) (hl : l.length < 4611686018427387904) (most : Nat) : Cw Tryd.prog 49 [sv l, .int .i64 (most : Int)] z fun r s' => K0 z s' ∧ r = .bool (runF l most) := by
  have hp : Hp (fun _ => False) z [] [] z := Hp.start _ wf _ (by simp)
  refine Cw.enterS Tryd.func49 rfl rfl ?_
  refine Sm.seqW ?_
  conv => whnf
  refine Sm.seqW ?_
  conv => whnf
  refine Om.of _ (sv_ne l []) ?_
  conv => whnf
  unfold runF
  by_cases h0 : l = []
  · subst h0
    have hq : (!(([] : List UInt8) == [])) = false := rfl
    rw [hq]
    repeat (first | (refine Br.yes (by first | with_reducible rfl | with_reducible exact beq_self_eq_true _ | rfl) ?_; conv => whnf) | (refine Br.no (by first | with_reducible rfl | with_reducible exact bne_self_eq_false _ | rfl) ?_; conv => whnf))
    refine Sm.ofW ?_
    conv => whnf
    exact ⟨hp.fr, rfl⟩
  have hq : (!(l == [])) = true := by rw [beq_eq_false_iff_ne.2 h0]; rfl
  rw [hq]
  repeat (first | (refine Br.yes (by first | with_reducible rfl | with_reducible exact beq_self_eq_true _ | rfl) ?_; conv => whnf) | (refine Br.no (by first | with_reducible rfl | with_reducible exact bne_self_eq_false _ | rfl) ?_; conv => whnf))
  by_cases hm : l.length ≤ most
  · have hd : decide ((l.length : Int) ≤ (most : Int)) = true := decide_eq_true (by omega)
    repeat (first | (refine Br.yes hd ?_; conv => whnf) | (first | (refine Br.yes (by first | with_reducible rfl | with_reducible exact beq_self_eq_true _ | rfl) ?_; conv => whnf) | (refine Br.no (by first | with_reducible rfl | with_reducible exact bne_self_eq_false _ | rfl) ?_; conv => whnf)))
    refine hp.call (trimF_spec hp.wf l hl) ?_
    clear hp
    rintro _ s rfl hp _
    conv => whnf
    repeat (first | (refine Br.yes hd ?_; conv => whnf) | (first | (refine Br.yes (by first | with_reducible rfl | with_reducible exact beq_self_eq_true _ | rfl) ?_; conv => whnf) | (refine Br.no (by first | with_reducible rfl | with_reducible exact bne_self_eq_false _ | rfl) ?_; conv => whnf)))
    refine Om.of _ (sv_eq ((dropR l).dropWhile isD) []) ?_
    conv => whnf
    repeat (first | (refine Br.yes hd ?_; conv => whnf) | (first | (refine Br.yes (by first | with_reducible rfl | with_reducible exact beq_self_eq_true _ | rfl) ?_; conv => whnf) | (refine Br.no (by first | with_reducible rfl | with_reducible exact bne_self_eq_false _ | rfl) ?_; conv => whnf)))
    refine Sm.ofW ?_
    conv => whnf
    refine ⟨hp.fr, congrArg Value.bool ?_⟩
    rw [trim_nil, decide_eq_true hm]
    rfl
  · have hd : decide ((l.length : Int) ≤ (most : Int)) = false := decide_eq_false (by omega)
    repeat (first | (refine Br.no hd ?_; conv => whnf) | (first | (refine Br.yes (by first | with_reducible rfl | with_reducible exact beq_self_eq_true _ | rfl) ?_; conv => whnf) | (refine Br.no (by first | with_reducible rfl | with_reducible exact bne_self_eq_false _ | rfl) ?_; conv => whnf)))
    refine Sm.ofW ?_
    conv => whnf
    refine ⟨hp.fr, congrArg Value.bool ?_⟩
    rw [decide_eq_false hm]
    rfl
end Go.Ev
end

/- dec.Read walked. No condition. -/
noncomputable section
namespace Go.Ev
open Go.Proofs
set_option linter.unusedVariables false
set_option maxRecDepth 100000

/-- What figures are worth. -/
def valD (l : List UInt8) : Nat := l.foldl (fun a b => 10 * a + (b.toNat - 48)) 0
theorem valD_snoc (l : List UInt8) (c : UInt8) : valD (l ++ [c]) = 10 * valD l + (c.toNat - 48) := by simp [valD]
def bodyF (l : List UInt8) : List UInt8 := if hasP l [45] = true then l.drop 1 else l
def wholeF (b : List UInt8) : List UInt8 := match idxL 46 b 0 with
  | some i => b.take i
  | none => b
def restF (b : List UInt8) : List UInt8 := match idxL 46 b 0 with
  | some i => b.drop (i + 1)
  | none => []
def pointF (b : List UInt8) : Bool := (idxL 46 b 0).isSome
def readOk (b : List UInt8) : Bool := runF (wholeF b) 30 && (!pointF b || runF (restF b) 9)
def readF (l : List UInt8) : Value :=
  if readOk (bodyF l) = false then errD 2 else if 10 ^ 30 ≤ valD (wholeF (bodyF l) ++ restF (bodyF l)) then errD 3
  else if (hasP l [45] && decide (valD (wholeF (bodyF l) ++ restF (bodyF l)) = 0)) = true then errD 2 else okD ⟨hasP l [45], valD (wholeF (bodyF l) ++ restF (bodyF l)), (restF (bodyF l)).length⟩
theorem cutP_eq (l : List UInt8) : cutP l [45] = .tuple #[sv (bodyF l), .bool (hasP l [45])] := by
  unfold cutP bodyF
  cases hasP l [45] <;> rfl
theorem cutF_eq (b : List UInt8) : cutF b 46 = .tuple #[sv (wholeF b), sv (restF b), .bool (pointF b)] := by
  unfold cutF wholeF restF pointF
  show (match idxL 46 b 0 with
    | some i => Value.tuple #[sv (b.take i), sv (b.drop (i + 1)), .bool true]
    | none => .tuple #[sv b, sv [], .bool false]) = _
  cases idxL 46 b 0 <;> rfl
theorem body_len (l : List UInt8) : (bodyF l).length ≤ l.length := by
  unfold bodyF; split <;> simp
theorem whole_len (b : List UInt8) : (wholeF b).length ≤ b.length := by
  unfold wholeF; split <;> simp; omega
theorem rest_len (b : List UInt8) : (restF b).length ≤ b.length := by
  unfold restF; split <;> simp
theorem runF_ok {l : List UInt8} {m : Nat} (h : runF l m = true) : l ≠ [] ∧ l.length ≤ m ∧ ∀ x ∈ l, isD x = true := by
  unfold runF at h
  simp only [Bool.and_eq_true, Bool.not_eq_true', beq_eq_false_iff_ne, decide_eq_true_eq, List.all_eq_true] at h
  exact h
theorem readOk_ok {b : List UInt8} (h : readOk b = true) : (wholeF b ++ restF b).length ≤ 39 ∧ ∀ x ∈ wholeF b ++ restF b, isD x = true := by
  unfold readOk at h
  simp only [Bool.and_eq_true, Bool.or_eq_true, Bool.not_eq_true'] at h
  obtain ⟨_, h1, h2⟩ := runF_ok h.1
  rcases h.2 with g | g
  · have : restF b = [] := by
      unfold pointF at g
      unfold restF
      cases hi : idxL 46 b 0 with
      | none => rfl
      | some i => rw [hi] at g; cases g
    rw [this, List.append_nil]
    exact ⟨by omega, h2⟩
  · obtain ⟨_, g1, g2⟩ := runF_ok g
    refine ⟨by simp; omega, fun x hx => ?_⟩
    rcases List.mem_append.1 hx with k | k
    · exact h2 x k
    · exact g2 x k
theorem BD : SlT Tryd.prog 59 5 1 1 (.int .u8 0) := ⟨Tryd.underlying59, ⟨_, rfl, rfl, rfl, rfl⟩, rfl, rfl, by decide, by decide⟩
theorem isD_d {c : UInt8} (h : isD c = true) : 48 ≤ c.toNat ∧ c.toNat ≤ 57 := of_decide_eq_true h
/-- What stands while figures are read. -/
structure RdOk (W : List UInt8) (i c : Nat) (over : Bool) : Prop where
  c30 : c < 10 ^ 30
  ov : over = decide (10 ^ 30 ≤ valD (W.take i))
  val : over = false → c = valD (W.take i)
theorem read_spec {z : St} (wf : WF z) (l : List UInt8) (hl : l.length < 4611686018427387904) : Cw Tryd.prog 14 [sv l] z fun r s' => K0 z s' ∧ r = readF l := by
  have hp : Hp (fun _ => False) z [] [] z := Hp.start _ wf _ (by simp)
  have hb := body_len l
  have hw := whole_len (bodyF l)
  have hr := rest_len (bodyF l)
  refine Cw.enterS Tryd.func14 rfl rfl ?_
  refine Sm.seqW ?_
  conv => whnf
  refine hp.alloc (cs := Dc.zero.cells) (e := 4) rfl rfl rfl rfl rfl ?_
  clear hp
  intro p2 s hp _
  conv => whnf
  refine Sm.live [0, 2] ?_
  conv => whnf
  refine Sm.seqW ?_
  conv => whnf
  refine (cutPrefix_spec _ l [45]).mono ?_
  rintro _ s1 ⟨h1, rfl⟩
  obtain rfl := h1.symm
  conv => whnf
  rw [cutP_eq]
  conv => whnf
  refine Sm.live [2, 4, 5] ?_
  conv => whnf
  refine Sm.seqW ?_
  conv => whnf
  refine (cut_spec _ (bodyF l) (by omega) 46).mono ?_
  rintro _ s1 ⟨h1, rfl⟩
  obtain rfl := h1.symm
  conv => whnf
  rw [cutF_eq]
  conv => whnf
  refine Sm.live [2, 5, 6, 7, 8] ?_
  conv => whnf
  have hread : readF l = if readOk (bodyF l) = false then errD 2 else if 10 ^ 30 ≤ valD (wholeF (bodyF l) ++ restF (bodyF l)) then errD 3
    else if (hasP l [45] && decide (valD (wholeF (bodyF l) ++ restF (bodyF l)) = 0)) = true then errD 2 else okD ⟨hasP l [45], valD (wholeF (bodyF l) ++ restF (bodyF l)), (restF (bodyF l)).length⟩ := rfl
  have hokk := readOk_ok (b := bodyF l)
  have hdef : readOk (bodyF l) = (runF (wholeF (bodyF l)) 30 && (!pointF (bodyF l) || runF (restF (bodyF l)) 9)) := rfl
  generalize wholeF (bodyF l) = W at *
  generalize restF (bodyF l) = R at *
  generalize pointF (bodyF l) = pt at *
  generalize hasP l [45] = ng at *
  generalize readOk (bodyF l) = ok at *
  generalize readF l = RF at *
  refine Sm.seq ?_
  refine Sm.seqC (fun e L' s' => e = .normal ∧ Hp (fun _ => False) z [] [blkA p2 p2 Dc.zero.cells 4] s' ∧ Sub [(2, .pointer (some ⟨p2, 0, none⟩)), (5, .bool ng), (6, sv W), (7, sv R), (37, .bool (!ok))] L') ?_ ?_
  · conv => whnf
    refine hp.call (run_spec hp.wf W (by omega) 30) ?_
    clear hp
    rintro _ s rfl hp _
    conv => whnf
    cases h1 : runF W 30 with
    | false =>
      have : ok = false := by rw [hdef, h1]; rfl
      subst this
      repeat (first | (refine Br.yes (by first | with_reducible rfl | with_reducible exact beq_self_eq_true _ | rfl) ?_; conv => whnf) | (refine Br.no (by first | with_reducible rfl | with_reducible exact bne_self_eq_false _ | rfl) ?_; conv => whnf))
      exact ⟨rfl, hp, subK_ok ⟨rfl, rfl, rfl, rfl, rfl, trivial⟩⟩
    | true =>
      repeat (first | (refine Br.yes (by first | with_reducible rfl | with_reducible exact beq_self_eq_true _ | rfl) ?_; conv => whnf) | (refine Br.no (by first | with_reducible rfl | with_reducible exact bne_self_eq_false _ | rfl) ?_; conv => whnf))
      cases pt with
      | false =>
        have : ok = true := by rw [hdef, h1]; rfl
        subst this
        repeat (first | (refine Br.yes (by first | with_reducible rfl | with_reducible exact beq_self_eq_true _ | rfl) ?_; conv => whnf) | (refine Br.no (by first | with_reducible rfl | with_reducible exact bne_self_eq_false _ | rfl) ?_; conv => whnf))
        exact ⟨rfl, hp, subK_ok ⟨rfl, rfl, rfl, rfl, rfl, trivial⟩⟩
      | true =>
        repeat (first | (refine Br.yes (by first | with_reducible rfl | with_reducible exact beq_self_eq_true _ | rfl) ?_; conv => whnf) | (refine Br.no (by first | with_reducible rfl | with_reducible exact bne_self_eq_false _ | rfl) ?_; conv => whnf))
        refine hp.call (run_spec hp.wf R (by omega) 9) ?_
        clear hp
        rintro _ s rfl hp _
        conv => whnf
        have : ok = runF R 9 := by rw [hdef, h1]; rfl
        rw [← this]
        repeat (first | (refine Br.yes (by first | with_reducible rfl | with_reducible exact beq_self_eq_true _ | rfl) ?_; conv => whnf) | (refine Br.no (by first | with_reducible rfl | with_reducible exact bne_self_eq_false _ | rfl) ?_; conv => whnf))
        exact ⟨rfl, hp, subK_ok ⟨rfl, rfl, rfl, rfl, rfl, trivial⟩⟩
  clear hp
  rintro e L' s ⟨rfl, hp, hs⟩
  refine Sm.weak _ hs ?_
  clear hs
  refine Sm.ofW ?_
  conv => whnf
  cases ok with
  | false =>
    repeat (first | (refine Br.yes (by first | with_reducible rfl | with_reducible exact beq_self_eq_true _ | rfl) ?_; conv => whnf) | (refine Br.no (by first | with_reducible rfl | with_reducible exact bne_self_eq_false _ | rfl) ?_; conv => whnf))
    refine hp.storeW (vs := Dc.zero.cells) rfl (by repeat (first | exact Rm.here | apply Rm.there)) (by first | exact C2_same _ _ _ _ | exact C4_same _ _ _ _ _ _ _ _ | exact Dc_same _ _ | rfl) rfl rfl rfl ?_
    clear hp
    intro s hp _
    conv => whnf
    refine hp.loadA (l := Dc.zero.cells) (by repeat (first | exact Has.here | apply Has.there | (apply Has.swap; repeat (first | exact HasR.here | apply HasR.there)))) rfl (by rfl) rfl rfl ?_
    conv => whnf
    refine ⟨hp.fr, ?_⟩
    rw [hread, if_pos rfl]
    rfl
  | true =>
    rw [if_neg (by decide)] at hread
    obtain ⟨h39, hall⟩ := hokk rfl
    repeat (first | (refine Br.yes (by first | with_reducible rfl | with_reducible exact beq_self_eq_true _ | rfl) ?_; conv => whnf) | (refine Br.no (by first | with_reducible rfl | with_reducible exact bne_self_eq_false _ | rfl) ?_; conv => whnf))
    refine Sm.seqW ?_
    conv => whnf
    refine hp.call (lOf_spec hp.wf (a := 0) (by decide)) ?_
    clear hp
    rintro _ s rfl hp _
    conv => whnf
    refine hp.alloc (cs := C2 0 0) (e := 1) rfl rfl rfl rfl rfl ?_
    clear hp
    intro p9 s hp _
    conv => whnf
    refine hp.storeW (vs := C2 (0 % w64) (0 / w64)) rfl (by repeat (first | exact Rm.here | apply Rm.there)) (by first | exact C2_same _ _ _ _ | exact C4_same _ _ _ _ _ _ _ _ | exact Dc_same _ _ | rfl) rfl rfl rfl ?_
    clear hp
    intro s hp _
    conv => whnf
    refine Sm.live [2, 5, 6, 7, 9, 10] ?_
    conv => whnf
    refine Sm.seq ?_
    refine Sm.seqW ?_
    conv => whnf
    refine Om.of _ (str_add ⟨W.toArray⟩ ⟨R.toArray⟩ (by rw [bs_mk, bs_mk]; simp at h39; omega)) ?_
    conv => whnf
    have e0 : bs ⟨(bs ⟨W.toArray⟩ ++ bs ⟨R.toArray⟩).toArray⟩ = W ++ R := rfl
    refine hp.bytesOf Tryd.underlying9 Tryd.underlying59 Tryd.underlying5 ⟨(bs ⟨W.toArray⟩ ++ bs ⟨R.toArray⟩).toArray⟩ ?_
    clear hp
    intro pb s hp _
    rw [e0] at hp ⊢
    generalize hWR : W ++ R = Y at *
    conv => whnf
    refine Sm.block ?_
    refine Sm.loop ?_
    refine Lp.ofS (α := Nat × Nat × Bool) (fun x => [(2, .pointer (some ⟨p2, 0, none⟩)), (5, .bool ng), (7, sv R), (9, .pointer (some ⟨p9, 0, none⟩)), (10, .bool x.2.2), (43, .slice (some ⟨pb, 0, none⟩) Y.length Y.length), (44, .int .i64 (Y.length : Int)), (45, .int .i64 (x.1 : Int))])
      (fun x s' => x.1 ≤ Y.length ∧ RdOk Y x.1 x.2.1 x.2.2 ∧ Hp (fun _ => False) z [] [blkA pb pb (byteVals Y) 1, blkA p9 p9 (C2 (x.2.1 % w64) (x.2.1 / w64)) 1, blkA p2 p2 Dc.zero.cells 4] s') (fun x => Y.length - x.1) ?_ (0, 0, false) (subK_ok (by refine ⟨rfl, rfl, rfl, rfl, rfl, rfl, rfl, rfl, trivial⟩)) ⟨Nat.zero_le _, ⟨by decide, by simp [valD], fun _ => by simp [valD]⟩, hp⟩
    clear hp
    rintro ⟨i, c, ov⟩ s ⟨hi, ok, hp⟩
    simp only at hi ok hp
    refine Sm.seqW ?_
    conv => whnf
    refine Sm.seq ?_
    refine Sm.ofW ?_
    conv => whnf
    refine Br.mk (fun hc => ?_) (fun hc => ?_)
    · have hc : i < Y.length := by have h : (i : Int) < (Y.length : Int) := of_decide_eq_true hc; omega
      obtain ⟨d1, d2⟩ := isD_d (hall Y[i] (List.getElem_mem hc))
      have htake : Y.take (i + 1) = Y.take i ++ [Y[i]] := List.take_succ_eq_append_getElem hc
      have hval : valD (Y.take (i + 1)) = 10 * valD (Y.take i) + (Y[i].toNat - 48) := by rw [htake, valD_snoc]
      have c30 := ok.c30
      conv => whnf
      refine Sm.seq ?_
      refine Sm.block ?_
      refine Sm.seqW ?_
      conv => whnf
      have hix := idx_at (P := Tryd.prog) BD (b := pb) (off := 0) (c := Y.length) .i64 hc
      refine Om.of _ (hix) ?_
      conv => whnf
      refine hp.load (v := .int .u8 ((Y[i].toNat : Nat) : Int)) (by repeat (first | exact Has.here | apply Has.there | (apply Has.swap; repeat (first | exact HasR.here | apply HasR.there)))) (by rw [Nat.zero_add, Nat.mul_one]; simp [byteVals, hc]) rfl rfl rfl ?_
      conv => whnf
      refine Sm.live [2, 5, 7, 9, 10, 12, 43, 44, 45] ?_
      conv => whnf
      refine Sm.seqW ?_
      conv => whnf
      refine ⟨[0, 0, 3, 7, 15, 31, 31, 0, 191, 511], by decide +kernel, by decide +kernel, ?_⟩
      conv => whnf
      refine hp.loadA (l := C2 (c % w64) (c / w64)) (by repeat (first | exact Has.here | apply Has.there | (apply Has.swap; repeat (first | exact HasR.here | apply HasR.there)))) rfl (by rfl) rfl rfl ?_
      conv => whnf
      refine hp.rst.call (lOf_spec hp.rst.wf (a := 10) (by decide)) ?_
      rintro _ s1 rfl h1 k1
      conv => whnf
      refine hp.dkN h1 k1 ?_
      clear hp h1 k1
      intro s hp
      conv => whnf
      refine hp.rst.call (lMul_spec hp.rst.wf (a := c) (b := 10) (Nat.lt_trans c30 (by decide)) (by decide)) ?_
      rintro _ s1 rfl h1 k1
      conv => whnf
      refine hp.dkN h1 k1 ?_
      clear hp h1 k1
      intro s hp
      conv => whnf
      have hcm : c * 10 < w128 := Nat.lt_of_lt_of_le ((Nat.mul_lt_mul_right (by decide)).2 c30) (by decide)
      refine hp.rst.call (lShort_ok hp.rst.wf hcm) ?_
      rintro _ s1 rfl h1 k1
      conv => whnf
      refine hp.dkN h1 k1 ?_
      clear hp h1 k1
      intro s hp
      conv => whnf
      refine hp.rst.alloc (cs := C2 0 0) (e := 1) rfl rfl rfl rfl rfl ?_
      intro p13 s1 h1 k1
      conv => whnf
      refine hp.dkN h1 k1 ?_
      clear hp h1 k1
      intro s hp
      conv => whnf
      refine hp.rst.storeW (vs := C2 (c * 10 % w64) (c * 10 / w64)) rfl (by repeat (first | exact Rm.here | apply Rm.there)) (by first | exact C2_same _ _ _ _ | exact C4_same _ _ _ _ _ _ _ _ | exact Dc_same _ _ | rfl) rfl rfl rfl ?_
      intro s1 h1 l1
      conv => whnf
      refine hp.dkW h1 l1 ?_
      clear hp h1 l1
      intro s hp
      conv => whnf
      refine Sm.live [2, 5, 7, 9, 10, 12, 13, 14, 43, 44, 45] ?_
      conv => whnf
      refine Sm.seqW ?_
      conv => whnf
      refine ⟨[0, 0, 2, 6, 14, 31, 63, 127, 127, 255, 1023], by decide +kernel, by decide +kernel, ?_⟩
      conv => whnf
      refine hp.loadA (l := C2 (c * 10 % w64) (c * 10 / w64)) (by repeat (first | exact Has.here | apply Has.there | (apply Has.swap; repeat (first | exact HasR.here | apply HasR.there)))) rfl (by rfl) rfl rfl ?_
      conv => whnf
      have ed : IntKind.u64.wrap (IntKind.u8.wrap (((Y[i].toNat : Nat) : Int) - 48)) = ((Y[i].toNat - 48 : Nat) : Int) := by rw [wrap_u8i, wrap_u64i]; omega
      obtain ⟨d, hd⟩ : ∃ d, d = Y[i].toNat - 48 := ⟨_, rfl⟩
      have hd9 : d ≤ 9 := by omega
      rw [← hd] at hval ed
      rw [ed]
      refine hp.rst.call (lOf_spec hp.rst.wf (a := d) (by simp only [w64]; omega)) ?_
      rintro _ s1 rfl h1 k1
      conv => whnf
      refine hp.dkN h1 k1 ?_
      clear hp h1 k1
      intro s hp
      conv => whnf
      have hdw : d < w128 := by simp only [w128]; omega
      have hsum : c * 10 + d < w128 := by simp only [w128]; omega
      refine hp.rst.call (lAdd_ok hp.rst.wf hcm hdw hsum) ?_
      rintro _ s1 rfl h1 k1
      conv => whnf
      refine hp.dkN h1 k1 ?_
      clear hp h1 k1
      intro s hp
      conv => whnf
      refine hp.rst.storeW (vs := C2 ((c * 10 + d) % w64) ((c * 10 + d) / w64)) rfl (by repeat (first | exact Rm.here | apply Rm.there)) (by first | exact C2_same _ _ _ _ | exact C4_same _ _ _ _ _ _ _ _ | exact Dc_same _ _ | rfl) rfl rfl rfl ?_
      intro s1 h1 l1
      conv => whnf
      refine hp.dkW h1 l1 ?_
      clear hp h1 l1
      intro s hp
      conv => whnf
      refine Sm.live [2, 5, 7, 9, 10, 13, 14, 15, 43, 44, 45] ?_
      conv => whnf
      have ov2 : ov = true → 10 ^ 30 ≤ valD (Y.take (i + 1)) := fun h => by
        have := ok.ov
        rw [h] at this
        have := of_decide_eq_true this.symm
        rw [hval]; omega
      have nov : ov = false → valD (Y.take (i + 1)) = c * 10 + d := fun h => by rw [hval, ← ok.val h]; omega
      obtain ⟨ov', hov'⟩ : ∃ o, o = decide (10 ^ 30 ≤ valD (Y.take (i + 1))) := ⟨_, rfl⟩
      obtain ⟨c', hc'⟩ : ∃ c', c' = if ov' = true then c else c * 10 + d := ⟨_, rfl⟩
      have ok2 : RdOk Y (i + 1) c' ov' := by
        refine ⟨?_, hov', fun h => ?_⟩
        · rw [hc']
          split
          · exact c30
          · rename_i g
            have g' : ov' = false := by simpa using g
            have h1 : ¬ 10 ^ 30 ≤ valD (Y.take (i + 1)) := by rw [g'] at hov'; exact of_decide_eq_false hov'.symm
            cases hov : ov with
            | true => exact absurd (ov2 hov) h1
            | false => rw [← nov hov]; omega
        · rw [hc', h, if_neg (by decide)]
          have h1 : ¬ 10 ^ 30 ≤ valD (Y.take (i + 1)) := by rw [h] at hov'; exact of_decide_eq_false hov'.symm
          cases hov : ov with
          | true => exact absurd (ov2 hov) h1
          | false => exact (nov hov).symm
      have ei : IntKind.i64.wrap ((i : Int) + 1) = ((i + 1 : Nat) : Int) := by rw [wi64 (by omega) (by omega)]; push_cast; rfl
      refine Sm.seqC (fun e L' s' => e = .normal ∧ Hp (fun _ => False) z [] [blkA pb pb (byteVals Y) 1, blkA p13 p13 (C2 ((c * 10 + d) % w64) ((c * 10 + d) / w64)) 1, blkA p9 p9 (C2 (c % w64) (c / w64)) 1, blkA p2 p2 Dc.zero.cells 4] s' ∧ Sub [(2, .pointer (some ⟨p2, 0, none⟩)), (5, .bool ng), (7, sv R), (9, .pointer (some ⟨p9, 0, none⟩)), (10, .bool ov'), (13, .pointer (some ⟨p13, 0, none⟩)), (43, .slice (some ⟨pb, 0, none⟩) Y.length Y.length), (44, .int .i64 (Y.length : Int)), (45, .int .i64 (i : Int))] L') ?_ ?_
      · conv => whnf
        cases hov : ov with
        | true =>
          have : ov' = true := by rw [hov']; exact decide_eq_true (ov2 hov)
          rw [this]
          repeat (first | (refine Br.yes (by first | with_reducible rfl | with_reducible exact beq_self_eq_true _ | rfl) ?_; conv => whnf) | (refine Br.no (by first | with_reducible rfl | with_reducible exact bne_self_eq_false _ | rfl) ?_; conv => whnf))
          exact ⟨rfl, hp.pik (by repeat (first | exact Pik.nil | exact Pik.refl _ | exact Rm.here | apply Rm.there | apply Pik.cons | apply Pik.skip)), subK_ok ⟨rfl, rfl, rfl, rfl, rfl, rfl, rfl, rfl, rfl, trivial⟩⟩
        | false =>
          repeat (first | (refine Br.yes (by first | with_reducible rfl | with_reducible exact beq_self_eq_true _ | rfl) ?_; conv => whnf) | (refine Br.no (by first | with_reducible rfl | with_reducible exact bne_self_eq_false _ | rfl) ?_; conv => whnf))
          refine hp.loadA (l := C2 ((c * 10 + d) % w64) ((c * 10 + d) / w64)) (by repeat (first | exact Has.here | apply Has.there | (apply Has.swap; repeat (first | exact HasR.here | apply HasR.there)))) rfl (by rfl) rfl rfl ?_
          conv => whnf
          repeat (first | (refine Br.yes (by first | with_reducible rfl | with_reducible exact beq_self_eq_true _ | rfl) ?_; conv => whnf) | (refine Br.no (by first | with_reducible rfl | with_reducible exact bne_self_eq_false _ | rfl) ?_; conv => whnf))
          refine hp.call (small_spec hp.wf hsum) ?_
          clear hp
          rintro _ s rfl hp _
          conv => whnf
          repeat (first | (refine Br.yes (by first | with_reducible rfl | with_reducible exact beq_self_eq_true _ | rfl) ?_; conv => whnf) | (refine Br.no (by first | with_reducible rfl | with_reducible exact bne_self_eq_false _ | rfl) ?_; conv => whnf))
          have : ov' = !decide (c * 10 + d < 10 ^ 30) := by
            rw [hov', nov hov]
            by_cases g : c * 10 + d < 10 ^ 30
            · rw [decide_eq_true g, decide_eq_false (by omega)]; rfl
            · rw [decide_eq_false g, decide_eq_true (by omega)]; rfl
          rw [this]
          exact ⟨rfl, hp.pik (by repeat (first | exact Pik.nil | exact Pik.refl _ | exact Rm.here | apply Rm.there | apply Pik.cons | apply Pik.skip)), subK_ok ⟨rfl, rfl, rfl, rfl, rfl, rfl, rfl, rfl, rfl, trivial⟩⟩
      clear hp
      rintro e L' s ⟨rfl, hp, hs⟩
      refine Sm.weak _ hs ?_
      clear hs
      refine Sm.seqW ?_
      conv => whnf
      refine Sm.ofW ?_
      conv => whnf
      cases hv : ov' with
      | true =>
        rw [hv] at hc' ok2
        rw [if_pos rfl] at hc'
        subst hc'
        repeat (first | (refine Br.yes (by first | with_reducible rfl | with_reducible exact beq_self_eq_true _ | rfl) ?_; conv => whnf) | (refine Br.no (by first | with_reducible rfl | with_reducible exact bne_self_eq_false _ | rfl) ?_; conv => whnf))
        refine Sm.ofW ?_
        conv => whnf
        exact ⟨(i + 1, c', true), by (show Y.length - (i + 1) < Y.length - i); omega, subK_ok (by refine ⟨rfl, rfl, rfl, rfl, rfl, rfl, rfl, congrArg (fun x => some (Value.int .i64 x)) ei, trivial⟩), (by (show i + 1 ≤ Y.length); omega), ok2, hp.pik (by repeat (first | exact Pik.nil | exact Pik.refl _ | exact Rm.here | apply Rm.there | apply Pik.cons | apply Pik.skip))⟩
      | false =>
        rw [hv] at hc' ok2
        rw [if_neg (by decide)] at hc'
        repeat (first | (refine Br.yes (by first | with_reducible rfl | with_reducible exact beq_self_eq_true _ | rfl) ?_; conv => whnf) | (refine Br.no (by first | with_reducible rfl | with_reducible exact bne_self_eq_false _ | rfl) ?_; conv => whnf))
        refine hp.loadA (l := C2 ((c * 10 + d) % w64) ((c * 10 + d) / w64)) (by repeat (first | exact Has.here | apply Has.there | (apply Has.swap; repeat (first | exact HasR.here | apply HasR.there)))) rfl (by rfl) rfl rfl ?_
        conv => whnf
        refine hp.storeW (vs := C2 ((c * 10 + d) % w64) ((c * 10 + d) / w64)) rfl (by repeat (first | exact Rm.here | apply Rm.there)) (by first | exact C2_same _ _ _ _ | exact C4_same _ _ _ _ _ _ _ _ | exact Dc_same _ _ | rfl) rfl rfl rfl ?_
        clear hp
        intro s hp _
        conv => whnf
        rw [← hc'] at hp
        refine Sm.ofW ?_
        conv => whnf
        exact ⟨(i + 1, c', false), by (show Y.length - (i + 1) < Y.length - i); omega, subK_ok (by refine ⟨rfl, rfl, rfl, rfl, rfl, rfl, rfl, congrArg (fun x => some (Value.int .i64 x)) ei, trivial⟩), (by (show i + 1 ≤ Y.length); omega), ok2, hp.pik (by repeat (first | exact Pik.nil | exact Pik.refl _ | exact Rm.here | apply Rm.there | apply Pik.cons | apply Pik.skip))⟩
    · have hc : ¬ i < Y.length := by have h : ¬ (i : Int) < (Y.length : Int) := of_decide_eq_false hc; omega
      obtain rfl : i = Y.length := by omega
      have hov := ok.ov
      have hv := ok.val
      rw [List.take_length] at hov hv
      have c30 := ok.c30
      have cw : c < w128 := Nat.lt_trans c30 (by decide)
      conv => whnf
      refine Sm.seq ?_
      refine Sm.block ?_
      refine Sm.seqW ?_
      conv => whnf
      refine Sm.ofW ?_
      conv => whnf
      cases hovc : ov with
      | true =>
        rw [hovc] at hov
        rw [if_pos (of_decide_eq_true hov.symm)] at hread
        repeat (first | (refine Br.yes (by first | with_reducible rfl | with_reducible exact beq_self_eq_true _ | rfl) ?_; conv => whnf) | (refine Br.no (by first | with_reducible rfl | with_reducible exact bne_self_eq_false _ | rfl) ?_; conv => whnf))
        refine hp.storeW (vs := Dc.zero.cells) rfl (by repeat (first | exact Rm.here | apply Rm.there)) (by first | exact C2_same _ _ _ _ | exact C4_same _ _ _ _ _ _ _ _ | exact Dc_same _ _ | rfl) rfl rfl rfl ?_
        clear hp
        intro s hp _
        conv => whnf
        refine hp.loadA (l := Dc.zero.cells) (by repeat (first | exact Has.here | apply Has.there | (apply Has.swap; repeat (first | exact HasR.here | apply HasR.there)))) rfl (by rfl) rfl rfl ?_
        conv => whnf
        refine ⟨hp.fr, ?_⟩
        rw [hread]; rfl
      | false =>
        rw [hovc] at hov
        rw [if_neg (of_decide_eq_false hov.symm)] at hread
        have hv := hv hovc
        rw [← hv] at hread
        cases ng with
        | false =>
          repeat (first | (refine Br.yes (by first | with_reducible rfl | with_reducible exact beq_self_eq_true _ | rfl) ?_; conv => whnf) | (refine Br.no (by first | with_reducible rfl | with_reducible exact bne_self_eq_false _ | rfl) ?_; conv => whnf))
          refine Sm.seqW ?_
          conv => whnf
          refine hp.loadA (l := C2 (c % w64) (c / w64)) (by repeat (first | exact Has.here | apply Has.there | (apply Has.swap; repeat (first | exact HasR.here | apply HasR.there)))) rfl (by rfl) rfl rfl ?_
          conv => whnf
          refine hp.storeW (vs := (Dc.mk false c (R.length : Int)).cells) rfl (by repeat (first | exact Rm.here | apply Rm.there)) (by first | exact C2_same _ _ _ _ | exact C4_same _ _ _ _ _ _ _ _ | exact Dc_same _ _ | rfl) rfl rfl rfl ?_
          clear hp
          intro s hp _
          conv => whnf
          refine Sm.ofW ?_
          conv => whnf
          refine hp.loadA (l := (Dc.mk false c (R.length : Int)).cells) (by repeat (first | exact Has.here | apply Has.there | (apply Has.swap; repeat (first | exact HasR.here | apply HasR.there)))) rfl (by rfl) rfl rfl ?_
          conv => whnf
          refine ⟨hp.fr, ?_⟩
          rw [hread]; rfl
        | true =>
          repeat (first | (refine Br.yes (by first | with_reducible rfl | with_reducible exact beq_self_eq_true _ | rfl) ?_; conv => whnf) | (refine Br.no (by first | with_reducible rfl | with_reducible exact bne_self_eq_false _ | rfl) ?_; conv => whnf))
          refine hp.loadA (l := C2 (c % w64) (c / w64)) (by repeat (first | exact Has.here | apply Has.there | (apply Has.swap; repeat (first | exact HasR.here | apply HasR.there)))) rfl (by rfl) rfl rfl ?_
          conv => whnf
          repeat (first | (refine Br.yes (by first | with_reducible rfl | with_reducible exact beq_self_eq_true _ | rfl) ?_; conv => whnf) | (refine Br.no (by first | with_reducible rfl | with_reducible exact bne_self_eq_false _ | rfl) ?_; conv => whnf))
          refine hp.call (nought_spec hp.wf c) ?_
          clear hp
          rintro _ s rfl hp _
          conv => whnf
          by_cases h0 : c = 0
          · rw [decide_eq_true h0]
            repeat (first | (refine Br.yes (by first | with_reducible rfl | with_reducible exact beq_self_eq_true _ | rfl) ?_; conv => whnf) | (refine Br.no (by first | with_reducible rfl | with_reducible exact bne_self_eq_false _ | rfl) ?_; conv => whnf))
            refine hp.storeW (vs := Dc.zero.cells) rfl (by repeat (first | exact Rm.here | apply Rm.there)) (by first | exact C2_same _ _ _ _ | exact C4_same _ _ _ _ _ _ _ _ | exact Dc_same _ _ | rfl) rfl rfl rfl ?_
            clear hp
            intro s hp _
            conv => whnf
            refine hp.loadA (l := Dc.zero.cells) (by repeat (first | exact Has.here | apply Has.there | (apply Has.swap; repeat (first | exact HasR.here | apply HasR.there)))) rfl (by rfl) rfl rfl ?_
            conv => whnf
            refine ⟨hp.fr, ?_⟩
            rw [hread, decide_eq_true h0]; rfl
          · rw [decide_eq_false h0]
            repeat (first | (refine Br.yes (by first | with_reducible rfl | with_reducible exact beq_self_eq_true _ | rfl) ?_; conv => whnf) | (refine Br.no (by first | with_reducible rfl | with_reducible exact bne_self_eq_false _ | rfl) ?_; conv => whnf))
            refine Sm.seqW ?_
            conv => whnf
            refine hp.loadA (l := C2 (c % w64) (c / w64)) (by repeat (first | exact Has.here | apply Has.there | (apply Has.swap; repeat (first | exact HasR.here | apply HasR.there)))) rfl (by rfl) rfl rfl ?_
            conv => whnf
            refine hp.storeW (vs := (Dc.mk true c (R.length : Int)).cells) rfl (by repeat (first | exact Rm.here | apply Rm.there)) (by first | exact C2_same _ _ _ _ | exact C4_same _ _ _ _ _ _ _ _ | exact Dc_same _ _ | rfl) rfl rfl rfl ?_
            clear hp
            intro s hp _
            conv => whnf
            refine Sm.ofW ?_
            conv => whnf
            refine hp.loadA (l := (Dc.mk true c (R.length : Int)).cells) (by repeat (first | exact Has.here | apply Has.there | (apply Has.swap; repeat (first | exact HasR.here | apply HasR.there)))) rfl (by rfl) rfl rfl ?_
            conv => whnf
            refine ⟨hp.fr, ?_⟩
            rw [hread, decide_eq_false h0]; rfl
end Go.Ev
end

/- limb.Bits; pieces of an array. No condition. -/
noncomputable section
namespace Go.Ev
open Go.Proofs
set_option linter.unusedVariables false
set_option maxRecDepth 100000

theorem bits_spec {z : St} (wf : WF z) {n : Nat} (hn : n < w256) : Cw Tryd.prog 44 [W4 n] z fun r s' => K0 z s' ∧ ∃ k : Nat, r = .int .i64 (k : Int) ∧ (k = 0 ↔ n = 0) := by
  have hp : Hp (fun _ => False) z [] [] z := Hp.start _ wf _ (by simp)
  refine Cw.enterS Tryd.func44 rfl rfl ?_
  refine Sm.seqW ?_
  conv => whnf
  refine hp.var (cs := natU (ws n)) (e := 1) (w4_ws hn) rfl ?_
  clear hp
  intro p1 s hp _
  conv => whnf
  refine Sm.live [1] ?_
  conv => whnf
  refine Sm.seq ?_
  refine Sm.seqW ?_
  conv => whnf
  refine Sm.block ?_
  refine Sm.loop ?_
  refine Lp.ofS (α := Nat) (fun k => [(1, .pointer (some ⟨p1, 0, none⟩)), (3, .int .i64 ((k : Int) - 1))])
    (fun k s' => k ≤ 256 ∧ n < 2 ^ k ∧ Hp (fun _ => False) z [] [blkA p1 p1 (natU (ws n)) 1] s') (fun k => k) ?_ 256 (subK_ok (by refine ⟨rfl, rfl, trivial⟩)) ⟨Nat.le_refl _, hn, hp⟩
  clear hp
  rintro k s ⟨hk, hE, hp⟩
  cases k with
  | zero =>
    refine Sm.seq ?_
    refine Sm.seqW ?_
    conv => whnf
    refine Sm.ofW ?_
    conv => whnf
    refine Br.no (rfl) ?_
    conv => whnf
    refine Sm.seqW ?_
    conv => whnf
    refine Sm.ofW ?_
    conv => whnf
    exact ⟨hp.fr, 0, rfl, by simp at hE ⊢; exact hE⟩
  | succ i =>
    have hk0 : decide ((i : Int) ≥ 0) = true := decide_eq_true (by omega)
    refine Sm.weak [(1, .pointer (some ⟨p1, 0, none⟩)), (3, .int .i64 (i : Int))] (subK_ok ⟨rfl, congrArg (fun x => some (Value.int .i64 x)) (show ((i + 1 : Nat) : Int) - 1 = (i : Int) by push_cast; omega), trivial⟩) ?_
    refine Sm.seq ?_
    refine Sm.seqW ?_
    conv => whnf
    refine Sm.ofW ?_
    conv => whnf
    refine Br.yes (hk0) ?_
    conv => whnf
    refine Sm.seq ?_
    refine Sm.block ?_
    refine Sm.seqW ?_
    conv => whnf
    refine Om.of _ (quo_nat (n := i) (m := 64) (by decide) (by omega)) ?_
    conv => whnf
    refine Om.of _ (ixA Tryd.underlying53 (by rfl) rfl .i64 (i := i / 64) (by omega)) ?_
    conv => whnf
    refine hp.load (by repeat (first | exact Has.here | apply Has.there | (apply Has.swap; repeat (first | exact HasR.here | apply HasR.there)))) (show (natU (ws n))[0 + i / 64]? = some (.int .u64 ((wd n (i / 64) : Nat) : Int)) by rw [Nat.zero_add]; exact wd_get n (i / 64) (by omega)) rfl rfl rfl ?_
    conv => whnf
    refine Om.of _ (rem_nat (n := i) (m := 64) (by decide)) ?_
    conv => whnf
    refine Om.of _ (shr_u64 _ (i % 64) (by omega)) ?_
    conv => whnf
    have e8 : IntKind.u64.wrap ((BitVec.ofInt IntKind.u64.bits ((wd n (i / 64) / 2 ^ (i % 64) : Nat) : Int) &&& BitVec.ofInt IntKind.u64.bits 1).toNat : Int) = ((n / 2 ^ i % 2 : Nat) : Int) := by
      have hx : wd n (i / 64) / 2 ^ (i % 64) < w64 := Nat.lt_of_le_of_lt (Nat.div_le_self _ _) (wd_lt _ _)
      have ha1 := and_u64 (b := 1) hx (by decide)
      rw [Nat.and_one_is_mod, wd_bit n i] at ha1
      rw [show (BitVec.ofInt IntKind.u64.bits 1) = BitVec.ofInt IntKind.u64.bits ((1 : Nat) : Int) from rfl, ha1]
    refine Sm.ofW ?_
    conv => whnf
    have h2 : 2 ^ (i + 1) = 2 * 2 ^ i := by rw [Nat.pow_succ, Nat.mul_comm]
    have hdm := Nat.div_add_mod n (2 ^ i)
    by_cases hb : n / 2 ^ i % 2 = 0
    · have hd : decide (IntKind.u64.wrap ((BitVec.ofInt IntKind.u64.bits ((wd n (i / 64) / 2 ^ (i % 64) : Nat) : Int) &&& BitVec.ofInt IntKind.u64.bits 1).toNat : Int) > 0) = false := by
        rw [e8, hb]; rfl
      refine Br.no (hd) ?_
      conv => whnf
      refine Sm.ofW ?_
      conv => whnf
      have hz : n / 2 ^ i = 0 := by
        have : n / 2 ^ i < 2 := (Nat.div_lt_iff_lt_mul (Nat.pow_pos (by decide))).2 (by rw [← h2]; exact hE)
        clear hdm h2 hE
        generalize n / 2 ^ i = q at this hb ⊢
        omega
      have ei : IntKind.i64.wrap ((i : Int) - 1) = (i : Int) - 1 := wi64 (by omega) (by omega)
      refine ⟨i, Nat.lt_succ_self i, subK_ok (by refine ⟨rfl, congrArg (fun x => some (Value.int .i64 x)) ei, trivial⟩), by omega, ?_, hp⟩
      rw [hz, Nat.mul_zero, Nat.zero_add] at hdm
      rw [← hdm]; exact Nat.mod_lt _ (Nat.pow_pos (by decide))
    · have hd : decide (IntKind.u64.wrap ((BitVec.ofInt IntKind.u64.bits ((wd n (i / 64) / 2 ^ (i % 64) : Nat) : Int) &&& BitVec.ofInt IntKind.u64.bits 1).toNat : Int) > 0) = true := by
        rw [e8]; exact decide_eq_true (by omega)
      refine Br.yes (hd) ?_
      conv => whnf
      have ei : IntKind.i64.wrap ((i : Int) + 1) = ((i + 1 : Nat) : Int) := by rw [wi64 (by omega) (by omega)]; push_cast; rfl
      refine ⟨hp.fr, i + 1, congrArg (Value.int .i64) ei, ?_⟩
      refine ⟨fun h => by omega, fun h => ?_⟩
      rw [h, Nat.zero_div] at hb
      exact absurd rfl hb
theorem slice_arr {P : Program} {t n e : Nat} (hu : P.underlying t = some (.array n e)) {j : TypeInfo} (hin : P.info? e = some j) (hj : j.size = 1) {s : St} {k b : Nat} {l : List UInt8} (hb : Blk s k b (byteVals l) 1) (hn : l.length = n) (hn0 : 0 < n)
    {lo hi : Option Nat} (h1 : lo.getD 0 ≤ hi.getD n) (h2 : hi.getD n ≤ n) :
    ∃ v, evSliceMem P t (.pointer (some ⟨b, 0, none⟩)) (bndV .i64 lo) (bndV .i64 hi) none s = some v ∧ Sb s (some k) v ((l.drop (lo.getD 0)).take (hi.getD n - lo.getD 0)) := by
  have hbd : bnds n n (bndV .i64 lo) (bndV .i64 hi) none = some (lo.getD 0, hi.getD n, n) := by
    unfold bnds
    cases lo <;> cases hi <;> simp only [bndV, Option.getD_none, Option.getD_some] at h1 h2 ⊢
    · rw [bnd_nat h2]
    · rw [bnd_nat h1]
    · rw [bnd_nat h2]; simp only; rw [bnd_nat h1]
  refine ⟨.slice (some ⟨b, lo.getD 0, none⟩) (hi.getD n - lo.getD 0) (n - lo.getD 0), ?_, ?_⟩
  · obtain ⟨base, fl, g1, g2, g3⟩ := hb.ex
    have e1 := hb.esz
    have e2 := hb.rd
    unfold evSliceMem
    rw [hu]
    simp only [hin, e1, e2, hj, Nat.beq_refl, Nat.mul_one, blt_of hn0, byteVals_length, Nat.zero_add, hn, Nat.ble_eq_true_of_le (Nat.le_refl n), g1, hbd]
  · have hlen : ((l.drop (lo.getD 0)).take (hi.getD n - lo.getD 0)).length = hi.getD n - lo.getD 0 := by simp; omega
    have hv : byteVals ((l.drop (lo.getD 0)).take (hi.getD n - lo.getD 0)) = ((byteVals l).drop (lo.getD 0)).take (hi.getD n - lo.getD 0) := by simp [byteVals, List.map_take, List.map_drop]
    refine ⟨.inr ⟨b, lo.getD 0, n - lo.getD 0, byteVals l, by rw [hlen], by rw [hlen]; omega, by rw [byteVals_length, Nat.mul_one], ?_, .inl ⟨k, rfl, hb⟩⟩⟩
    rw [hv, hlen, Nat.mul_one]
    unfold sl
    simp only
    have : (((byteVals l).drop (lo.getD 0)).take (hi.getD n - lo.getD 0)).length = hi.getD n - lo.getD 0 := by rw [← hv, byteVals_length, hlen]
    rw [this, Nat.beq_refl]
end Go.Ev
end

/- dec.Print walked. No condition. -/
noncomputable section
namespace Go.Ev
open Go.Proofs
set_option linter.unusedVariables false
set_option maxRecDepth 100000

/-- The k-th figure of a number, from the right. -/
def dch (c k : Nat) : UInt8 := UInt8.ofNat (48 + c / 10 ^ k % 10)
/-- So many figures, the lowest first. -/
def pl (c n : Nat) : List UInt8 := (List.range n).map (dch c)
theorem pl_succ (c n : Nat) : pl c (n + 1) = pl c n ++ [dch c n] := by simp [pl, List.range_succ]
theorem pl_len (c n : Nat) : (pl c n).length = n := by simp [pl]
/-- How many figures are printed. -/
def np (c sc : Nat) : Nat := max (sc + 1) (dg c).length
theorem dg_more {c i : Nat} : i < (dg c).length ↔ 0 < c / 10 ^ i := by
  have h := (dg_dl c).small i
  rw [Vd_dg] at h
  have hp := p10 i
  constructor
  · intro g
    have : ¬ c < 10 ^ i := fun k => by have := h.1 k; omega
    exact Nat.div_pos (by omega) hp
  · intro g
    rcases Nat.lt_or_ge i (dg c).length with k | k
    · exact k
    · have := h.2 k
      rw [Nat.div_eq_of_lt this] at g; exact absurd g (by decide)
theorem np_more {c sc i : Nat} : i < np c sc ↔ i ≤ sc ∨ 0 < c / 10 ^ i := by
  unfold np
  rw [← dg_more]; omega
theorem np_le {c sc : Nat} (hc : c < 10 ^ 30) (hs : sc ≤ 9) : np c sc ≤ 30 := by
  have := dg_len 30 c hc
  unfold np; omega
def printF (d : Dc) : List UInt8 :=
  if d.right = false then [] else
  (if d.neg = true then [45] else []) ++ ((pl d.c (np d.c d.scale.toNat)).reverse.take (np d.c d.scale.toNat - d.scale.toNat) ++
    (if 0 < d.scale then [46] ++ (pl d.c (np d.c d.scale.toNat)).reverse.drop (np d.c d.scale.toNat - d.scale.toNat) else []))
theorem lDiv_ten {z : St} (wf : WF z) {a : Nat} (ha : a < w256) : Cw Tryd.prog 45 [W4 a, W2 10] z fun r s' => K0 z s' ∧ r = .tuple #[W4 (a / 10), W2 (a % 10), .bool true] :=
  lDiv_spec wf ha (by decide) (by decide)
/-- What stands in the field of figures when i are there. -/
def fieldL (c i : Nat) : List UInt8 := List.replicate (31 - i) 0 ++ (pl c i).reverse
theorem fieldL_len {c i : Nat} (h : i ≤ 31) : (fieldL c i).length = 31 := by simp [fieldL, pl_len]; omega
theorem fieldL_set {c i : Nat} (h : i < 31) : (fieldL c i).set (30 - i) (dch c i) = fieldL c (i + 1) := by
  unfold fieldL
  rw [pl_succ, List.reverse_append, show 31 - i = (30 - i) + 1 by omega, List.replicate_succ', List.append_assoc, show 31 - (i + 1) = 30 - i by omega]
  rw [List.set_append_right _ _ (by simp)]
  simp
theorem figs_dch : ∀ j, (h : j < 10) → figs[j]'h = UInt8.ofNat (48 + j) := by decide +kernel
theorem field_whole {c n k : Nat} (hn : n ≤ 31) (hk : k ≤ n) : ((fieldL c n).drop (31 - n)).take (31 - k - (31 - n)) = (pl c n).reverse.take (n - k) := by
  unfold fieldL
  rw [List.drop_left' (by simp), show 31 - k - (31 - n) = n - k by omega]
theorem field_rest {c n k : Nat} (hn : n ≤ 31) (hk : k ≤ n) : ((fieldL c n).drop (31 - k)).take (31 - (31 - k)) = (pl c n).reverse.drop (n - k) := by
  have h1 : (fieldL c n).drop (31 - k) = (pl c n).reverse.drop (n - k) := by
    unfold fieldL
    rw [List.drop_append, List.drop_eq_nil_of_le (by simp; omega), List.nil_append, List.length_replicate, show 31 - k - (31 - n) = n - k by omega]
  rw [h1, List.take_of_length_le (by simp [pl_len]; omega)]
theorem print_spec {z : St} (wf : WF z) (d : Dc) (hd : d.c < w128) : Cw Tryd.prog 13 [d.val] z fun r s' => K0 z s' ∧ r = sv (printF d) := by
  have hp : Hp (fun _ => False) z [] [] z := Hp.start _ wf _ (by simp)
  refine Cw.enterS Tryd.func13 rfl rfl ?_
  refine Sm.seqW ?_
  conv => whnf
  refine hp.var (cs := d.cells) (e := 4) rfl rfl ?_
  clear hp
  intro p1 s hp _
  conv => whnf
  refine Sm.live [1] ?_
  conv => whnf
  refine Sm.seq ?_
  refine Sm.seqW ?_
  conv => whnf
  refine hp.loadA (l := d.cells) (by repeat (first | exact Has.here | apply Has.there | (apply Has.swap; repeat (first | exact HasR.here | apply HasR.there)))) rfl (by rfl) rfl rfl ?_
  conv => whnf
  refine hp.call (right_spec hp.wf d hd) ?_
  clear hp
  rintro _ s rfl hp _
  conv => whnf
  unfold printF
  cases hr : d.right with
  | false =>
    rw [if_pos rfl]
    repeat (first | (refine Br.yes (by first | with_reducible rfl | with_reducible exact beq_self_eq_true _ | rfl) ?_; conv => whnf) | (refine Br.no (by first | with_reducible rfl | with_reducible exact bne_self_eq_false _ | rfl) ?_; conv => whnf))
    refine Sm.ofW ?_
    conv => whnf
    repeat (first | (refine Br.yes (by first | with_reducible rfl | with_reducible exact beq_self_eq_true _ | rfl) ?_; conv => whnf) | (refine Br.no (by first | with_reducible rfl | with_reducible exact bne_self_eq_false _ | rfl) ?_; conv => whnf))
    exact ⟨hp.fr, rfl⟩
  | true =>
    rw [if_neg (by decide)]
    obtain ⟨a1, a2, a3⟩ := Dc.right_c hr
    obtain ⟨ng, c, sc⟩ := d
    simp only at hd a1 a2 a3 ⊢
    obtain ⟨k, rfl⟩ : ∃ k : Nat, sc = k := ⟨sc.toNat, by omega⟩
    rw [Int.toNat_natCast]
    have hnp := np_le a1 (show k ≤ 9 by omega)
    have hmore : ∀ i, i < np c k ↔ i ≤ k ∨ 0 < c / 10 ^ i := fun i => np_more
    generalize np c k = n at *
    refine Sm.ofW ?_
    conv => whnf
    repeat (first | (refine Br.yes (by first | with_reducible rfl | with_reducible exact beq_self_eq_true _ | rfl) ?_; conv => whnf) | (refine Br.no (by first | with_reducible rfl | with_reducible exact bne_self_eq_false _ | rfl) ?_; conv => whnf))
    refine Sm.seqW ?_
    conv => whnf
    refine hp.alloc (cs := byteVals (fieldL c 0)) (e := 1) rfl rfl rfl (by kernel_rfl) rfl ?_
    clear hp
    intro p3 s hp _
    conv => whnf
    refine Sm.live [1, 3] ?_
    conv => whnf
    refine Sm.seqW ?_
    conv => whnf
    refine hp.loadA (l := C2 (c % w64) (c / w64)) (by repeat (first | exact Has.here | apply Has.there | (apply Has.swap; repeat (first | exact HasR.here | apply HasR.there)))) rfl (by rfl) rfl rfl ?_
    conv => whnf
    refine hp.call (lWide_spec hp.wf hd) ?_
    clear hp
    rintro _ s rfl hp _
    conv => whnf
    refine hp.alloc (cs := C4 0 0 0 0) (e := 1) rfl rfl rfl rfl rfl ?_
    clear hp
    intro p5 s hp _
    conv => whnf
    refine hp.storeW (vs := C4 (c % w64) (c / w64 % w64) (c / w128 % w64) (c / w192)) rfl (by repeat (first | exact Rm.here | apply Rm.there)) (by first | exact C2_same _ _ _ _ | exact C4_same _ _ _ _ _ _ _ _ | exact Dc_same _ _ | rfl) rfl rfl rfl ?_
    clear hp
    intro s hp _
    conv => whnf
    refine Sm.live [1, 3, 4, 5] ?_
    conv => whnf
    refine Sm.seq ?_
    refine Sm.block ?_
    refine Sm.loop ?_
    refine Lp.ofS (α := Nat) (fun i => [(1, .pointer (some ⟨p1, 0, none⟩)), (3, .pointer (some ⟨p3, 0, none⟩)), (4, .int .i64 ((31 - i : Nat) : Int)), (5, .pointer (some ⟨p5, 0, none⟩))])
      (fun i s' => i ≤ n ∧ Hp (fun _ => False) z [] [blkA p5 p5 (C4 (c / 10 ^ i % w64) (c / 10 ^ i / w64 % w64) (c / 10 ^ i / w128 % w64) (c / 10 ^ i / w192)) 1, blkA p3 p3 (byteVals (fieldL c i)) 1, blkA p1 p1 (Dc.mk ng c (k : Int)).cells 4] s') (fun i => n - i) ?_ 0 (subK_ok (by refine ⟨rfl, rfl, rfl, rfl, trivial⟩)) ⟨Nat.zero_le _, by rw [Nat.pow_zero, Nat.div_one]; exact hp.pik (by repeat (first | exact Pik.nil | exact Pik.refl _ | exact Rm.here | apply Rm.there | apply Pik.cons | apply Pik.skip))⟩
    clear hp
    rintro i s ⟨hi, hp⟩
    obtain ⟨v, hv⟩ : ∃ v, v = c / 10 ^ i := ⟨_, rfl⟩
    have hvw : v < w128 := Nat.lt_of_le_of_lt (hv ▸ Nat.div_le_self _ _) hd
    have hvw2 : v < w256 := Nat.lt_trans hvw (by decide)
    rw [← hv] at hp
    have hm := hmore i
    rw [← hv] at hm
    refine Sm.seq ?_
    refine Sm.seqC (fun e L' s' => e = .normal ∧ Hp (fun _ => False) z [] [blkA p5 p5 (C4 (v % w64) (v / w64 % w64) (v / w128 % w64) (v / w192)) 1, blkA p3 p3 (byteVals (fieldL c i)) 1, blkA p1 p1 (Dc.mk ng c (k : Int)).cells 4] s' ∧ Sub [(1, .pointer (some ⟨p1, 0, none⟩)), (3, .pointer (some ⟨p3, 0, none⟩)), (4, .int .i64 ((31 - i : Nat) : Int)), (5, .pointer (some ⟨p5, 0, none⟩)), (30, .bool (decide (i < n)))] L') ?_ ?_
    · conv => whnf
      have ew : IntKind.i64.wrap (31 - ((31 - i : Nat) : Int)) = (i : Int) := by rw [wi64 (by omega) (by omega)]; omega
      by_cases h0 : i = 0
      · have hq : (((31 - i : Nat) : Int) == 31) = true := beq_iff_eq.2 (by omega)
        repeat (first | (refine Br.yes hq ?_; conv => whnf) | (first | (refine Br.yes (by first | with_reducible rfl | with_reducible exact beq_self_eq_true _ | rfl) ?_; conv => whnf) | (refine Br.no (by first | with_reducible rfl | with_reducible exact bne_self_eq_false _ | rfl) ?_; conv => whnf)))
        have : decide (i < n) = true := decide_eq_true (hm.2 (.inl (by omega)))
        rw [this]
        exact ⟨rfl, hp, subK_ok ⟨rfl, rfl, rfl, rfl, rfl, trivial⟩⟩
      have hq : (((31 - i : Nat) : Int) == 31) = false := beq_eq_false_iff_ne.2 (by omega)
      repeat (first | (refine Br.no hq ?_; conv => whnf) | (first | (refine Br.yes (by first | with_reducible rfl | with_reducible exact beq_self_eq_true _ | rfl) ?_; conv => whnf) | (refine Br.no (by first | with_reducible rfl | with_reducible exact bne_self_eq_false _ | rfl) ?_; conv => whnf)))
      refine hp.load (v := .int .i64 (k : Int)) (by repeat (first | exact Has.here | apply Has.there | (apply Has.swap; repeat (first | exact HasR.here | apply HasR.there)))) (by rfl) rfl rfl rfl ?_
      conv => whnf
      repeat (first | (refine Br.no hq ?_; conv => whnf) | (first | (refine Br.yes (by first | with_reducible rfl | with_reducible exact beq_self_eq_true _ | rfl) ?_; conv => whnf) | (refine Br.no (by first | with_reducible rfl | with_reducible exact bne_self_eq_false _ | rfl) ?_; conv => whnf)))
      rw [ew]
      by_cases h1 : i ≤ k
      · have hq1 : decide ((i : Int) ≤ (k : Int)) = true := decide_eq_true (by omega)
        repeat (first | (refine Br.yes hq1 ?_; conv => whnf) | (refine Br.no hq ?_; conv => whnf) | (first | (refine Br.yes (by first | with_reducible rfl | with_reducible exact beq_self_eq_true _ | rfl) ?_; conv => whnf) | (refine Br.no (by first | with_reducible rfl | with_reducible exact bne_self_eq_false _ | rfl) ?_; conv => whnf)))
        have : decide (i < n) = true := decide_eq_true (hm.2 (.inl h1))
        rw [this]
        exact ⟨rfl, hp, subK_ok ⟨rfl, rfl, rfl, rfl, rfl, trivial⟩⟩
      have hq1 : decide ((i : Int) ≤ (k : Int)) = false := decide_eq_false (by omega)
      repeat (first | (refine Br.no hq1 ?_; conv => whnf) | (refine Br.no hq ?_; conv => whnf) | (first | (refine Br.yes (by first | with_reducible rfl | with_reducible exact beq_self_eq_true _ | rfl) ?_; conv => whnf) | (refine Br.no (by first | with_reducible rfl | with_reducible exact bne_self_eq_false _ | rfl) ?_; conv => whnf)))
      refine hp.loadA (l := C4 (v % w64) (v / w64 % w64) (v / w128 % w64) (v / w192)) (by repeat (first | exact Has.here | apply Has.there | (apply Has.swap; repeat (first | exact HasR.here | apply HasR.there)))) rfl (by rfl) rfl rfl ?_
      conv => whnf
      repeat (first | (refine Br.no hq1 ?_; conv => whnf) | (refine Br.no hq ?_; conv => whnf) | (first | (refine Br.yes (by first | with_reducible rfl | with_reducible exact beq_self_eq_true _ | rfl) ?_; conv => whnf) | (refine Br.no (by first | with_reducible rfl | with_reducible exact bne_self_eq_false _ | rfl) ?_; conv => whnf)))
      refine hp.call (bits_spec hp.wf hvw2) ?_
      clear hp
      rintro _ s ⟨kb, rfl, hkb⟩ hp _
      conv => whnf
      repeat (first | (refine Br.no hq1 ?_; conv => whnf) | (refine Br.no hq ?_; conv => whnf) | (first | (refine Br.yes (by first | with_reducible rfl | with_reducible exact beq_self_eq_true _ | rfl) ?_; conv => whnf) | (refine Br.no (by first | with_reducible rfl | with_reducible exact bne_self_eq_false _ | rfl) ?_; conv => whnf)))
      have : decide (i < n) = decide ((kb : Int) > 0) := decide_eq_decide.2 (by rw [hm]; omega)
      rw [this]
      exact ⟨rfl, hp, subK_ok ⟨rfl, rfl, rfl, rfl, rfl, trivial⟩⟩
    clear hp
    rintro e L' s ⟨rfl, hp, hs⟩
    refine Sm.weak _ hs ?_
    clear hs
    refine Sm.ofW ?_
    conv => whnf
    refine Br.mk (fun hc => ?_) (fun hc => ?_)
    · have hc : i < n := of_decide_eq_true hc
      conv => whnf
      refine Sm.block ?_
      refine Sm.seqW ?_
      conv => whnf
      refine ⟨[0, 0, 3, 7, 15, 15, 15, 0, 0, 415, 959, 2047], by decide +kernel, by decide +kernel, ?_⟩
      conv => whnf
      refine hp.loadA (l := C4 (v % w64) (v / w64 % w64) (v / w128 % w64) (v / w192)) (by repeat (first | exact Has.here | apply Has.there | (apply Has.swap; repeat (first | exact HasR.here | apply HasR.there)))) rfl (by rfl) rfl rfl ?_
      conv => whnf
      refine hp.rst.call (lOf_spec hp.rst.wf (a := 10) (by decide)) ?_
      rintro _ s1 rfl h1 k1
      conv => whnf
      refine hp.dkN h1 k1 ?_
      clear hp h1 k1
      intro s hp
      conv => whnf
      refine hp.rst.call (lDiv_ten hp.rst.wf hvw2) ?_
      rintro _ s1 rfl h1 k1
      conv => whnf
      refine hp.dkN h1 k1 ?_
      clear hp h1 k1
      intro s hp
      conv => whnf
      refine hp.rst.alloc (cs := C4 0 0 0 0) (e := 1) rfl rfl rfl rfl rfl ?_
      intro p6 s1 h1 k1
      conv => whnf
      refine hp.dkN h1 k1 ?_
      clear hp h1 k1
      intro s hp
      conv => whnf
      refine hp.rst.alloc (cs := C2 0 0) (e := 1) rfl rfl rfl rfl rfl ?_
      intro p7 s1 h1 k1
      conv => whnf
      refine hp.dkN h1 k1 ?_
      clear hp h1 k1
      intro s hp
      conv => whnf
      refine hp.rst.storeW (vs := C4 (v / 10 % w64) (v / 10 / w64 % w64) (v / 10 / w128 % w64) (v / 10 / w192)) rfl (by repeat (first | exact Rm.here | apply Rm.there)) (by first | exact C2_same _ _ _ _ | exact C4_same _ _ _ _ _ _ _ _ | exact Dc_same _ _ | rfl) rfl rfl rfl ?_
      intro s1 h1 l1
      conv => whnf
      refine hp.dkW h1 l1 ?_
      clear hp h1 l1
      intro s hp
      conv => whnf
      refine hp.rst.storeW (vs := C2 (v % 10 % w64) (v % 10 / w64)) rfl (by repeat (first | exact Rm.here | apply Rm.there)) (by first | exact C2_same _ _ _ _ | exact C4_same _ _ _ _ _ _ _ _ | exact Dc_same _ _ | rfl) rfl rfl rfl ?_
      intro s1 h1 l1
      conv => whnf
      refine hp.dkW h1 l1 ?_
      clear hp h1 l1
      intro s hp
      conv => whnf
      refine Sm.live [1, 3, 4, 5, 6, 7] ?_
      conv => whnf
      refine Sm.seqW ?_
      conv => whnf
      have e30 : IntKind.i64.wrap (((31 - i : Nat) : Int) - 1) = ((30 - i : Nat) : Int) := by rw [wi64 (by omega) (by omega)]; omega
      rw [e30]
      refine Sm.live [1, 3, 4, 5, 6, 7] ?_
      conv => whnf
      refine Sm.ofW ?_
      conv => whnf
      refine ⟨[0, 0, 2, 6, 0, 15, 47, 127], by decide +kernel, by decide +kernel, ?_⟩
      conv => whnf
      refine Om.of _ (rfl) ?_
      conv => whnf
      refine hp.load (v := .int .u64 ((v % 10 % w64 : Nat) : Int)) (by repeat (first | exact Has.here | apply Has.there | (apply Has.swap; repeat (first | exact HasR.here | apply HasR.there)))) (by rfl) rfl rfl rfl ?_
      conv => whnf
      have h10 : v % 10 % w64 < 10 := by simp only [w64]; omega
      refine Om.of _ (str_index Tryd.underlying9 (l := figs) (i := v % 10 % w64) h10 .u64) ?_
      conv => whnf
      have hdc : figs[v % 10 % w64]'h10 = dch c i := by
        rw [figs_dch _ h10]
        unfold dch
        rw [← hv]
        congr 2
        simp only [w64]; omega
      rw [hdc]
      refine hp.loadA (l := C4 (v / 10 % w64) (v / 10 / w64 % w64) (v / 10 / w128 % w64) (v / 10 / w192)) (by repeat (first | exact Has.here | apply Has.there | (apply Has.swap; repeat (first | exact HasR.here | apply HasR.there)))) rfl (by rfl) rfl rfl ?_
      conv => whnf
      refine Om.of _ (ixA Tryd.underlying52 (by rfl) rfl .i64 (i := 30 - i) (by omega)) ?_
      conv => whnf
      have hp0 := hp
      refine hp.rst.store (by repeat (first | exact Rm.here | apply Rm.there)) (by rw [byteVals_length, fieldL_len (by omega)]; omega) rfl rfl rfl rfl ?_
      intro s1 h1 l1
      conv => whnf
      refine hp.dkW h1 l1 ?_
      clear hp h1 l1
      intro s hp
      conv => whnf
      refine ⟨hp0.sa hp (by repeat (first | exact Has.here | apply Has.there | (apply Has.swap; repeat (first | exact HasR.here | apply HasR.there)))) (by repeat (first | exact Has.here | apply Has.there | (apply Has.swap; repeat (first | exact HasR.here | apply HasR.there)))), ?_⟩
      clear hp0
      have hset : (byteVals (fieldL c i)).set (0 + (30 - i)) (.int .u8 ((dch c i).toNat : Int)) = byteVals (fieldL c (i + 1)) := by
        rw [Nat.zero_add, ← fieldL_set (by omega)]
        simp [byteVals, List.map_set]
      rw [hset] at hp
      conv => whnf
      refine hp.rst.storeW (vs := C4 (v / 10 % w64) (v / 10 / w64 % w64) (v / 10 / w128 % w64) (v / 10 / w192)) rfl (by repeat (first | exact Rm.here | apply Rm.there)) (by first | exact C2_same _ _ _ _ | exact C4_same _ _ _ _ _ _ _ _ | exact Dc_same _ _ | rfl) rfl rfl rfl ?_
      intro s1 h1 l1
      conv => whnf
      refine hp.dkW h1 l1 ?_
      clear hp h1 l1
      intro s hp
      conv => whnf
      have hv1 : v / 10 = c / 10 ^ (i + 1) := by rw [hv, Nat.div_div_eq_div_mul, Nat.pow_succ]
      rw [hv1] at hp
      exact ⟨i + 1, by (show n - (i + 1) < n - i); omega, subK_ok (by refine ⟨rfl, rfl, congrArg (fun x => some (Value.int .i64 x)) (show ((30 - i : Nat) : Int) = ((31 - (i + 1) : Nat) : Int) by omega), rfl, trivial⟩), by omega, hp.pik (by repeat (first | exact Pik.nil | exact Pik.refl _ | exact Rm.here | apply Rm.there | apply Pik.cons | apply Pik.skip))⟩
    · have hc : ¬ i < n := of_decide_eq_false hc
      obtain rfl : i = n := by omega
      have hkn : k < i := by
        rcases Nat.lt_or_ge k i with g | g
        · exact g
        · exact absurd (hm.2 (.inl g)) (by omega)
      have hlen : (fieldL c i).length = 31 := fieldL_len (by omega)
      have e31 : IntKind.i64.wrap (31 - (k : Int)) = ((31 - k : Nat) : Int) := by rw [wi64 (by omega) (by omega)]; omega
      conv => whnf
      refine Sm.seqW ?_
      conv => whnf
      refine ⟨[0, 0, 2, 6, 15, 31, 0, 64, 192, 448, 960, 63, 4095], by decide +kernel, by decide +kernel, ?_⟩
      conv => whnf
      refine hp.load (v := .int .i64 (k : Int)) (by repeat (first | exact Has.here | apply Has.there | (apply Has.swap; repeat (first | exact HasR.here | apply HasR.there)))) (by rfl) rfl rfl rfl ?_
      conv => whnf
      rw [e31]
      obtain ⟨v1, q1, b1⟩ := slice_arr (P := Tryd.prog) Tryd.underlying52 (by rfl) rfl (hp.rst.blk (k := p3) (b := p3) (by repeat (first | exact Has.here | apply Has.there | (apply Has.swap; repeat (first | exact HasR.here | apply HasR.there))))) hlen (by decide) (lo := some (31 - i)) (hi := some (31 - k)) (by simp only [Option.getD_some]; omega) (by simp only [Option.getD_some]; omega)
      simp only [Option.getD_some] at b1
      rw [field_whole (by omega) (by omega)] at b1
      refine Om.of _ (q1) ?_
      conv => whnf
      refine hp.dkS ?_
      conv => whnf
      refine Om.of _ (string_sl Tryd.underlying59 Tryd.underlying9 Tryd.underlying5 b1) ?_
      conv => whnf
      refine hp.dkS ?_
      conv => whnf
      clear q1 b1
      refine hp.load (v := .int .i64 (k : Int)) (by repeat (first | exact Has.here | apply Has.there | (apply Has.swap; repeat (first | exact HasR.here | apply HasR.there)))) (by rfl) rfl rfl rfl ?_
      conv => whnf
      rw [e31]
      obtain ⟨v2, q2, b2⟩ := slice_arr (P := Tryd.prog) Tryd.underlying52 (by rfl) rfl (hp.rst.blk (k := p3) (b := p3) (by repeat (first | exact Has.here | apply Has.there | (apply Has.swap; repeat (first | exact HasR.here | apply HasR.there))))) hlen (by decide) (lo := some (31 - k)) (hi := none) (by simp only [Option.getD_some, Option.getD_none]; omega) (by simp only [Option.getD_none]; omega)
      simp only [Option.getD_some, Option.getD_none] at b2
      rw [field_rest (by omega) (by omega)] at b2
      refine Om.of _ (q2) ?_
      conv => whnf
      refine hp.dkS ?_
      conv => whnf
      refine Om.of _ (string_sl Tryd.underlying59 Tryd.underlying9 Tryd.underlying5 b2) ?_
      conv => whnf
      refine hp.dkS ?_
      conv => whnf
      clear q2 b2
      refine Sm.live [1, 9, 10] ?_
      conv => whnf
      have hwl : ((pl c i).reverse.take (i - k)).length ≤ 31 := by simp [pl_len]; omega
      have hrl : ((pl c i).reverse.drop (i - k)).length ≤ 31 := by simp [pl_len]; omega
      generalize (pl c i).reverse.take (i - k) = WH at *
      generalize (pl c i).reverse.drop (i - k) = RS at *
      refine Sm.seqC (fun e L' s' => e = .normal ∧ s' = s ∧ Sub [(1, .pointer (some ⟨p1, 0, none⟩)), (9, sv ((if ng = true then [45] else []) ++ WH)), (10, sv RS)] L') ?_ ?_
      · conv => whnf
        refine hp.load (v := .bool ng) (by repeat (first | exact Has.here | apply Has.there | (apply Has.swap; repeat (first | exact HasR.here | apply HasR.there)))) (by rfl) rfl rfl rfl ?_
        conv => whnf
        cases ng with
        | false =>
          repeat (first | (refine Br.yes (by first | with_reducible rfl | with_reducible exact beq_self_eq_true _ | rfl) ?_; conv => whnf) | (refine Br.no (by first | with_reducible rfl | with_reducible exact bne_self_eq_false _ | rfl) ?_; conv => whnf))
          exact ⟨rfl, rfl, subK_ok ⟨rfl, rfl, rfl, trivial⟩⟩
        | true =>
          repeat (first | (refine Br.yes (by first | with_reducible rfl | with_reducible exact beq_self_eq_true _ | rfl) ?_; conv => whnf) | (refine Br.no (by first | with_reducible rfl | with_reducible exact bne_self_eq_false _ | rfl) ?_; conv => whnf))
          refine Om.of _ (str_add ⟨#[45]⟩ ⟨WH.toArray⟩ (by show 1 + WH.length ≤ _; omega)) ?_
          conv => whnf
          exact ⟨rfl, rfl, subK_ok ⟨rfl, rfl, rfl, trivial⟩⟩
      rintro e L' s' ⟨rfl, rfl, hs⟩
      refine Sm.weak _ hs ?_
      clear hs
      have hnl : ((if ng = true then [45] else []) ++ WH : List UInt8).length ≤ 32 := by cases ng <;> simp <;> omega
      rw [← List.append_assoc]
      generalize ((if ng = true then [45] else []) ++ WH : List UInt8) = NW at *
      refine Sm.seq ?_
      refine Sm.seqW ?_
      conv => whnf
      refine hp.load (v := .int .i64 (k : Int)) (by repeat (first | exact Has.here | apply Has.there | (apply Has.swap; repeat (first | exact HasR.here | apply HasR.there)))) (by rfl) rfl rfl rfl ?_
      conv => whnf
      refine Sm.ofW ?_
      conv => whnf
      by_cases hk : 0 < (k : Int)
      · rw [if_pos hk]
        refine Br.yes (decide_eq_true hk) ?_
        conv => whnf
        refine Om.of _ (str_add ⟨NW.toArray⟩ ⟨#[46]⟩ (by show NW.length + 1 ≤ _; omega)) ?_
        conv => whnf
        refine Om.of _ (str_add ⟨(bs ⟨NW.toArray⟩ ++ bs ⟨#[46]⟩).toArray⟩ ⟨RS.toArray⟩ (by show (NW ++ [46]).length + RS.length ≤ _; simp; omega)) ?_
        conv => whnf
        refine ⟨hp.fr, ?_⟩
        show sv ((NW ++ [46]) ++ RS) = sv (NW ++ ([46] ++ RS))
        rw [List.append_assoc]
      · rw [if_neg hk, List.append_nil]
        refine Br.no (decide_eq_false hk) ?_
        conv => whnf
        refine Sm.seqW ?_
        conv => whnf
        refine Sm.ofW ?_
        conv => whnf
        exact ⟨hp.fr, rfl⟩
end Go.Ev
end

/- Chapter 2's example; the order of decimals at one scale. No condition. -/
noncomputable section
namespace Go.Ev
open Go.Proofs
set_option linter.unusedVariables false
set_option maxRecDepth 100000

theorem rk2 : readF [45, 49, 50, 46, 53, 48] = okD ⟨true, 1250, 2⟩ := by
  unfold readF
  have e1 : readOk (bodyF [45, 49, 50, 46, 53, 48]) = true := by decide +kernel
  have e2 : valD (wholeF (bodyF [45, 49, 50, 46, 53, 48]) ++ restF (bodyF [45, 49, 50, 46, 53, 48])) = 1250 := by decide +kernel
  have e3 : hasP [45, 49, 50, 46, 53, 48] [45] = true := by decide +kernel
  have e4 : (restF (bodyF [45, 49, 50, 46, 53, 48])).length = 2 := by decide +kernel
  rw [e1, e2, e3, e4, if_neg (by decide), if_neg (by decide), if_neg (by decide)]
  rfl
theorem pk2 : printF ⟨true, 1250, 2⟩ = [45, 49, 50, 46, 53, 48] := by
  unfold printF
  have e1 : (Dc.mk true 1250 2).right = true := by decide +kernel
  have e2 : np 1250 2 = 4 := by
    unfold np
    have : (dg 1250).length = 4 := by simp [dg]
    rw [this]; rfl
  rw [e1, if_neg (by decide)]
  show (if true = true then [45] else []) ++ ((pl 1250 (np 1250 2)).reverse.take (np 1250 2 - 2) ++ (if (0 : Int) < 2 then [46] ++ (pl 1250 (np 1250 2)).reverse.drop (np 1250 2 - 2) else [])) = _
  rw [e2]
  decide +kernel
theorem dknown_spec {z : St} (wf : WF z) : Cw Tryd.prog 12 [] z fun r s' => K0 z s' ∧ r = .bool true := by
  have hp : Hp (fun _ => False) z [] [] z := Hp.start _ wf _ (by simp)
  refine Cw.enterS Tryd.func12 rfl rfl ?_
  refine Sm.seqW ?_
  conv => whnf
  refine Sm.seqW ?_
  conv => whnf
  refine hp.call (read_spec hp.wf [45, 49, 50, 46, 53, 48] (by decide)) ?_
  clear hp
  rintro _ s rfl hp _
  conv => whnf
  rw [rk2]
  conv => whnf
  refine hp.alloc (cs := Dc.zero.cells) (e := 4) rfl rfl rfl rfl rfl ?_
  clear hp
  intro p1 s hp _
  conv => whnf
  refine hp.storeW (vs := (Dc.mk true 1250 2).cells) rfl (by repeat (first | exact Rm.here | apply Rm.there)) (by first | exact C2_same _ _ _ _ | exact C4_same _ _ _ _ _ _ _ _ | exact Dc_same _ _ | rfl) rfl rfl rfl ?_
  clear hp
  intro s hp _
  conv => whnf
  refine Sm.live [1, 2] ?_
  conv => whnf
  refine Sm.seqW ?_
  conv => whnf
  repeat (first | (refine Br.yes (by first | with_reducible rfl | with_reducible exact beq_self_eq_true _ | rfl) ?_; conv => whnf) | (refine Br.no (by first | with_reducible rfl | with_reducible exact bne_self_eq_false _ | rfl) ?_; conv => whnf))
  refine hp.loadA (l := (Dc.mk true 1250 2).cells) (by repeat (first | exact Has.here | apply Has.there | (apply Has.swap; repeat (first | exact HasR.here | apply HasR.there)))) rfl (by rfl) rfl rfl ?_
  conv => whnf
  repeat (first | (refine Br.yes (by first | with_reducible rfl | with_reducible exact beq_self_eq_true _ | rfl) ?_; conv => whnf) | (refine Br.no (by first | with_reducible rfl | with_reducible exact bne_self_eq_false _ | rfl) ?_; conv => whnf))
  refine Om.of _ (dcv_eq (Dc.mk true 1250 2) _) ?_
  conv => whnf
  repeat (first | (refine Br.yes (by first | with_reducible rfl | with_reducible exact beq_self_eq_true _ | rfl) ?_; conv => whnf) | (refine Br.no (by first | with_reducible rfl | with_reducible exact bne_self_eq_false _ | rfl) ?_; conv => whnf))
  refine hp.loadA (l := (Dc.mk true 1250 2).cells) (by repeat (first | exact Has.here | apply Has.there | (apply Has.swap; repeat (first | exact HasR.here | apply HasR.there)))) rfl (by rfl) rfl rfl ?_
  conv => whnf
  repeat (first | (refine Br.yes (by first | with_reducible rfl | with_reducible exact beq_self_eq_true _ | rfl) ?_; conv => whnf) | (refine Br.no (by first | with_reducible rfl | with_reducible exact bne_self_eq_false _ | rfl) ?_; conv => whnf))
  refine hp.call (print_spec hp.wf (Dc.mk true 1250 2) (by decide)) ?_
  clear hp
  rintro _ s rfl hp _
  conv => whnf
  rw [pk2]
  repeat (first | (refine Br.yes (by first | with_reducible rfl | with_reducible exact beq_self_eq_true _ | rfl) ?_; conv => whnf) | (refine Br.no (by first | with_reducible rfl | with_reducible exact bne_self_eq_false _ | rfl) ?_; conv => whnf))
  refine Om.of _ (sv_eq [45, 49, 50, 46, 53, 48] [45, 49, 50, 46, 53, 48]) ?_
  conv => whnf
  repeat (first | (refine Br.yes (by first | with_reducible rfl | with_reducible exact beq_self_eq_true _ | rfl) ?_; conv => whnf) | (refine Br.no (by first | with_reducible rfl | with_reducible exact bne_self_eq_false _ | rfl) ?_; conv => whnf))
  refine Sm.ofW ?_
  conv => whnf
  exact ⟨hp.fr, rfl⟩
theorem cmpZ_mul {x y : Int} {k : Nat} (hk : 0 < k) : cmpZ (x * (k : Int)) (y * (k : Int)) = cmpZ x y := by
  have h1 : x * (k : Int) < y * (k : Int) ↔ x < y := Int.mul_lt_mul_right (by omega)
  have h2 : x * (k : Int) = y * (k : Int) ↔ x = y := ⟨fun h => Int.eq_of_mul_eq_mul_right (by omega) h, fun h => by rw [h]⟩
  unfold cmpZ
  simp only [h1, h2]
/-- A decimal's value, in units of the ninth place. -/
def u9 (x S : Int) : Int := x * 10 ^ (9 - S).toNat
theorem u9_up {x S M : Int} (h1 : S ≤ M) (h2 : M ≤ 9) : x * 10 ^ (M - S).toNat * 10 ^ (9 - M).toNat = u9 x S := by
  unfold u9
  rw [Int.mul_assoc, ← Int.pow_add, show (M - S).toNat + (9 - M).toNat = (9 - S).toNat by omega]
theorem cmpF_9 {x y S T : Int} (hx : x.natAbs < 10 ^ 30) (hy : y.natAbs < 10 ^ 30) (s1 : 0 ≤ S) (s2 : S ≤ 9) (t1 : 0 ≤ T) (t2 : T ≤ 9) : cmpF (mkD x S) (mkD y T) = cmpZ (u9 x S) (u9 y T) := by
  rw [cmpF_mkD hx hy s1 s2 t1 t2, ← u9_up (x := x) (S := S) (M := max S T) (by omega) (by omega), ← u9_up (x := y) (S := T) (M := max S T) (by omega) (by omega), p10i (9 - max S T).toNat, cmpZ_mul (p10 _)]
theorem cmpZ_cases (x y : Int) : (x < y ∧ cmpZ x y = -1) ∨ (x = y ∧ cmpZ x y = 0) ∨ (y < x ∧ cmpZ x y = 1) := by
  unfold cmpZ
  by_cases h : x < y
  · rw [if_pos h]; exact .inl ⟨h, rfl⟩
  · rw [if_neg h]
    by_cases g : x = y
    · rw [if_pos g]; exact .inr (.inl ⟨g, rfl⟩)
    · rw [if_neg g]; exact .inr (.inr ⟨by omega, rfl⟩)
theorem u9_neg (x S : Int) : u9 (-x) S = -u9 x S := Int.neg_mul _ _
theorem abs_le {a : Int} {n : Nat} (h : a.natAbs ≤ n) : -(n : Int) ≤ a ∧ a ≤ n := by omega
theorem lt_abs {a : Int} {n : Nat} (h : -(n : Int) < a ∧ a < n) : a.natAbs < n := by omega
theorem le_abs {a : Int} {n : Nat} (h : -(n : Int) ≤ a ∧ a ≤ n) : a.natAbs ≤ n := by omega
theorem mul_b {a c : Int} {m n : Nat} (h : a.natAbs ≤ m) (hk : c.natAbs ≤ n) : (a * c).natAbs ≤ m * n := by
  rw [Int.natAbs_mul]; exact Nat.mul_le_mul h hk
theorem p10_b {k n : Nat} (h : k ≤ n) : ((10 : Int) ^ k).natAbs ≤ 10 ^ n := by
  rw [p10i, Int.natAbs_natCast]; exact pow_le10 h
theorem add_b {a c : Int} {m n : Nat} (h : a.natAbs ≤ m) (hk : c.natAbs ≤ n) : (a + c).natAbs ≤ m + n := by omega
theorem sub_b {a c : Int} {m n : Nat} (h : a.natAbs ≤ m) (hk : c.natAbs ≤ n) : (a - c).natAbs ≤ m + n := by omega
end Go.Ev
end

/- What is printed of a decimal with more places. No condition. -/
noncomputable section
namespace Go.Ev
open Go.Proofs
set_option linter.unusedVariables false
set_option maxRecDepth 100000

theorem pow_div {c k j : Nat} : c * 10 ^ k / 10 ^ (k + j) = c / 10 ^ j := by
  rw [Nat.pow_add, ← Nat.div_div_eq_div_mul, Nat.mul_div_cancel _ (p10 _)]
theorem pow_mod {c k j : Nat} (h : j < k) : c * 10 ^ k / 10 ^ j % 10 = 0 := by
  obtain ⟨m, rfl⟩ : ∃ m, k = j + (m + 1) := ⟨k - j - 1, by omega⟩
  rw [Nat.pow_add, Nat.mul_comm (10 ^ j), ← Nat.mul_assoc, Nat.mul_div_cancel _ (p10 _), Nat.pow_succ, ← Nat.mul_assoc, Nat.mul_mod_left]
theorem pl_scale (c k n : Nat) : pl (c * 10 ^ k) (k + n) = List.replicate k 48 ++ pl c n := by
  refine List.ext_getElem (by simp [pl_len]) fun i h1 h2 => ?_
  rw [pl_len] at h1
  by_cases hi : i < k
  · rw [List.getElem_append_left (by simpa using hi)]
    simp only [pl, List.getElem_map, List.getElem_range, List.getElem_replicate, dch, pow_mod hi]
    rfl
  · rw [List.getElem_append_right (by simpa using hi)]
    simp only [pl, List.getElem_map, List.getElem_range, List.length_replicate, dch]
    have e : c * 10 ^ k / 10 ^ i = c / 10 ^ (i - k) := by
      have := @pow_div c k (i - k)
      rw [show k + (i - k) = i by omega] at this
      exact this
    rw [e]
theorem dg_scale {c : Nat} (hc : c ≠ 0) (k : Nat) : (dg (c * 10 ^ k)).length = (dg c).length + k := by
  have h : ∀ i, i < (dg (c * 10 ^ k)).length ↔ i < (dg c).length + k := fun i => by
    rw [dg_more]
    by_cases hi : i < k
    · refine ⟨fun _ => by omega, fun _ => Nat.div_pos ?_ (p10 _)⟩
      have h1 : 10 ^ i ≤ 10 ^ k := pow_le10 (by omega)
      have h2 : 1 * 10 ^ k ≤ c * 10 ^ k := Nat.mul_le_mul_right _ (by omega)
      omega
    · have e : c * 10 ^ k / 10 ^ i = c / 10 ^ (i - k) := by
        have := @pow_div c k (i - k)
        rw [show k + (i - k) = i by omega] at this
        exact this
      rw [e, ← dg_more]; omega
  have h1 := h (dg (c * 10 ^ k)).length
  have h2 := h ((dg c).length + k)
  omega
theorem np_scale (c k S : Nat) : np (c * 10 ^ k) (S + k) = np c S + k := by
  unfold np
  by_cases hc : c = 0
  · subst hc
    rw [Nat.zero_mul]
    have : dg 0 = [] := by rw [dg]; simp
    rw [this]; simp; omega
  · rw [dg_scale hc]; omega
theorem np_ge (c S : Nat) : S < np c S := by unfold np; omega
theorem print_scale {ng : Bool} {c S k : Nat} (h1 : (Dc.mk ng c (S : Int)).right = true) (h2 : (Dc.mk ng (c * 10 ^ k) ((S + k : Nat) : Int)).right = true) :
    printF ⟨ng, c * 10 ^ k, ((S + k : Nat) : Int)⟩ = printF ⟨ng, c, (S : Int)⟩ ++ (if S = 0 ∧ 0 < k then [46] else []) ++ List.replicate k 48 := by
  unfold printF
  rw [h1, h2, if_neg (by decide)]
  simp only [Int.toNat_natCast, np_scale]
  have hn := np_ge c S
  generalize np c S = n at *
  rw [Nat.add_comm n k, pl_scale, show k + n - (S + k) = n - S by omega, List.reverse_append, List.reverse_replicate]
  have e1 : ((pl c n).reverse ++ List.replicate k 48).take (n - S) = (pl c n).reverse.take (n - S) := by
    rw [List.take_append_of_le_length (by rw [List.length_reverse, pl_len]; omega)]
  have e2 : ((pl c n).reverse ++ List.replicate k 48).drop (n - S) = (pl c n).reverse.drop (n - S) ++ List.replicate k 48 := by
    rw [List.drop_append_of_le_length (by rw [List.length_reverse, pl_len]; omega)]
  rw [e1, e2]
  by_cases hS : S = 0
  · subst hS
    have e3 : (pl c n).reverse.drop (n - 0) = [] := List.drop_eq_nil_of_le (by rw [List.length_reverse, pl_len]; omega)
    rw [e3]
    by_cases hk : 0 < k
    · have c1 : (0 : Int) < ((0 + k : Nat) : Int) := by omega
      simp only [c1, if_true, hk, and_self]
      simp
    · obtain rfl : k = 0 := by omega
      simp
  · have c1 : (0 : Int) < ((S + k : Nat) : Int) := by omega
    have c2 : (0 : Int) < (S : Int) := by omega
    simp only [c1, c2, if_true, hS, false_and, if_false]
    simp
end Go.Ev
end

/- What is printed is read the same. No condition. -/
noncomputable section
namespace Go.Ev
open Go.Proofs
set_option linter.unusedVariables false
set_option maxRecDepth 100000

theorem print_len {d : Dc} (h : d.right = true) : (printF d).length ≤ 32 := by
  obtain ⟨a1, a2, a3⟩ := Dc.right_c h
  have hn := np_le a1 (show d.scale.toNat ≤ 9 by omega)
  unfold printF
  rw [h, if_neg (by decide)]
  have e1 : ((pl d.c (np d.c d.scale.toNat)).reverse.take (np d.c d.scale.toNat - d.scale.toNat)).length + ((pl d.c (np d.c d.scale.toNat)).reverse.drop (np d.c d.scale.toNat - d.scale.toNat)).length = np d.c d.scale.toNat := by
    rw [← List.length_append, List.take_append_drop, List.length_reverse, pl_len]
  generalize (pl d.c (np d.c d.scale.toNat)).reverse.take (np d.c d.scale.toNat - d.scale.toNat) = A at *
  generalize (pl d.c (np d.c d.scale.toNat)).reverse.drop (np d.c d.scale.toNat - d.scale.toNat) = B at *
  generalize np d.c d.scale.toNat = n at *
  split <;> split <;> simp <;> omega
theorem scaled_mkD {x S : Int} {T : Int} (hx : x.natAbs < 10 ^ 30) (s1 : 0 ≤ S) (h1 : S ≤ T) (h2 : T ≤ 9) : scaledF (mkD x S) T = mkI (x * 10 ^ (T - S).toNat) T := by
  have hr := mkD_right hx s1 (by omega)
  unfold scaledF
  rw [if_neg (by rw [hr]; simp; exact ⟨h1, h2⟩), dmade_mk]
  congr 1
  exact up_mkD x S T
theorem isD_iff {x : UInt8} : isD x = true ↔ 48 ≤ x.toNat ∧ x.toNat ≤ 57 := decide_eq_true_iff
theorem idxL_skip {c : Nat} : ∀ (W T : List UInt8) (i : Nat), (∀ x ∈ W, x.toNat ≠ c) → idxL c (W ++ T) i = idxL c T (i + W.length)
  | [], T, i, _ => rfl
  | x :: W, T, i, h => by
    show (match Nat.beq x.toNat c with | true => some i | false => idxL c (W ++ T) (i + 1)) = _
    have hx : Nat.beq x.toNat c = false := by
      have := h x (List.mem_cons_self ..)
      cases hb : Nat.beq x.toNat c with
      | false => rfl
      | true => exact absurd (Nat.eq_of_beq_eq_true hb) this
    rw [hx]
    show idxL c (W ++ T) (i + 1) = _
    rw [idxL_skip W T (i + 1) (fun y hy => h y (List.mem_cons_of_mem _ hy)), List.length_cons]
    congr 1; omega
theorem idxL_body {W R : List UInt8} (hW : ∀ x ∈ W, isD x = true) (pt : Bool) :
    idxL 46 (W ++ (if pt = true then [46] ++ R else [])) 0 = if pt = true then some W.length else none := by
  rw [idxL_skip W _ 0 (fun x hx => by have := isD_iff.1 (hW x hx); omega)]
  cases pt with
  | false => rfl
  | true => rw [if_pos rfl, if_pos rfl]; show some (0 + W.length) = _; rw [Nat.zero_add]
/-- A text of figures, with its parts. -/
def txt (ng : Bool) (W : List UInt8) (pt : Bool) (R : List UInt8) : List UInt8 := (if ng = true then [45] else []) ++ (W ++ (if pt = true then [46] ++ R else []))
theorem txt_hasP {ng pt : Bool} {W R : List UInt8} (h0 : W ≠ []) (hW : ∀ x ∈ W, isD x = true) : hasP (txt ng W pt R) [45] = ng := by
  cases ng with
  | true => rfl
  | false =>
    obtain ⟨w, W, rfl⟩ := List.exists_cons_of_ne_nil h0
    show (true && ([w] == [45])) = false
    have := isD_iff.1 (hW w (List.mem_cons_self ..))
    have hw : w ≠ 45 := fun e => by subst e; exact absurd this (by decide)
    simp [hw]
theorem txt_body {ng pt : Bool} {W R : List UInt8} (h0 : W ≠ []) (hW : ∀ x ∈ W, isD x = true) : bodyF (txt ng W pt R) = W ++ (if pt = true then [46] ++ R else []) := by
  unfold bodyF
  rw [txt_hasP h0 hW]
  cases ng <;> rfl
theorem txt_whole {pt : Bool} {W R : List UInt8} (hW : ∀ x ∈ W, isD x = true) : wholeF (W ++ (if pt = true then [46] ++ R else [])) = W := by
  unfold wholeF
  rw [idxL_body hW]
  cases pt with
  | false => simp
  | true => simp
theorem txt_rest {pt : Bool} {W R : List UInt8} (hW : ∀ x ∈ W, isD x = true) (hR : pt = false → R = []) : restF (W ++ (if pt = true then [46] ++ R else [])) = R := by
  unfold restF
  rw [idxL_body hW]
  cases pt with
  | false => simp [hR rfl]
  | true => simp
theorem txt_point {pt : Bool} {W R : List UInt8} (hW : ∀ x ∈ W, isD x = true) : pointF (W ++ (if pt = true then [46] ++ R else [])) = pt := by
  unfold pointF
  rw [idxL_body hW]
  cases pt <;> rfl
theorem all_isD {l : List UInt8} (h : ∀ x ∈ l, isD x = true) : l.all isD = true := List.all_eq_true.2 h
theorem read_txt {ng pt : Bool} {W R : List UInt8} (h0 : W ≠ []) (hW : ∀ x ∈ W, isD x = true) (hR : ∀ x ∈ R, isD x = true) (h1 : pt = false → R = []) (h2 : pt = true → R ≠ [] ∧ R.length ≤ 9) :
    readF (txt ng W pt R) = if 30 < W.length then errD 2 else if 10 ^ 30 ≤ valD (W ++ R) then errD 3 else if (ng && decide (valD (W ++ R) = 0)) = true then errD 2 else okD ⟨ng, valD (W ++ R), R.length⟩ := by
  unfold readF readOk
  rw [txt_body h0 hW, txt_whole hW, txt_rest hW h1, txt_point hW, txt_hasP h0 hW]
  have e1 : runF W 30 = decide (W.length ≤ 30) := by
    unfold runF
    rw [all_isD hW, beq_eq_false_iff_ne.2 h0]; simp
  have e2 : (!pt || runF R 9) = true := by
    cases pt with
    | false => rfl
    | true =>
      obtain ⟨g1, g2⟩ := h2 rfl
      unfold runF
      rw [all_isD hR, beq_eq_false_iff_ne.2 g1]; simp [g2]
  rw [e1, e2, Bool.and_true]
  by_cases h : 30 < W.length
  · rw [if_pos h, if_pos (decide_eq_false (by omega))]
  · rw [if_neg h, if_neg (by rw [decide_eq_true (by omega)]; decide)]
theorem pl_low (c n : Nat) : pl c (n + 1) = dch c 0 :: pl (c / 10) n := by
  unfold pl
  rw [List.range_succ_eq_map, List.map_cons, List.map_map]
  congr 1
  refine List.map_congr_left fun i _ => ?_
  show UInt8.ofNat (48 + c / 10 ^ (i + 1) % 10) = UInt8.ofNat (48 + c / 10 / 10 ^ i % 10)
  rw [Nat.div_div_eq_div_mul, Nat.pow_succ, Nat.mul_comm (10 ^ i)]
theorem dch_nat (c k : Nat) : (dch c k).toNat = 48 + c / 10 ^ k % 10 := by
  unfold dch
  rw [UInt8.toNat_ofNat']
  have := Nat.mod_lt (c / 10 ^ k) (show 0 < 10 by decide)
  omega
theorem pl_isD {c n : Nat} : ∀ x ∈ pl c n, isD x = true := by
  intro x hx
  unfold pl at hx
  obtain ⟨i, _, rfl⟩ := List.mem_map.1 hx
  rw [isD_iff, dch_nat]
  have := Nat.mod_lt (c / 10 ^ i) (show 0 < 10 by decide)
  omega
theorem valD_pl : ∀ (n c : Nat), valD (pl c n).reverse = c % 10 ^ n
  | 0, c => by simp [pl, valD, Nat.mod_one]
  | n + 1, c => by
    rw [pl_low, List.reverse_cons, valD_snoc, valD_pl n, dch_nat, Nat.pow_zero, Nat.div_one, Nat.pow_succ', Nat.mod_mul]
    omega
theorem np_val (c sc : Nat) : c < 10 ^ np c sc := by
  have h : ¬ np c sc < np c sc := by omega
  rw [np_more] at h
  have hp := p10 (np c sc)
  rcases Nat.lt_or_ge c (10 ^ np c sc) with g | g
  · exact g
  · exact absurd (.inr (Nat.div_pos g hp)) h
/-- The parts of what is printed. -/
theorem print_parts {d : Dc} (h : d.right = true) : ∃ W R : List UInt8, ∃ pt : Bool, W ≠ [] ∧ W.length ≤ 30 ∧ (∀ x ∈ W, isD x = true) ∧ (∀ x ∈ R, isD x = true) ∧ (pt = false → R = []) ∧
    (pt = true → R ≠ [] ∧ R.length ≤ 9) ∧ (R.length : Int) = d.scale ∧ valD (W ++ R) = d.c ∧ printF d = txt d.neg W pt R := by
  obtain ⟨a1, a2, a3⟩ := Dc.right_c h
  obtain ⟨ng, c, sc⟩ := d
  simp only at a1 a2 a3 ⊢
  obtain ⟨k, rfl⟩ : ∃ k : Nat, sc = k := ⟨sc.toNat, by omega⟩
  have hn := np_le a1 (show k ≤ 9 by omega)
  have hg := np_ge c k
  have hv := np_val c k
  refine ⟨(pl c (np c k)).reverse.take (np c k - k), (pl c (np c k)).reverse.drop (np c k - k), decide (0 < (k : Int)), ?_, ?_, ?_, ?_, ?_, ?_, ?_, ?_, ?_⟩
  · intro e
    have := congrArg List.length e
    simp [pl_len] at this; omega
  · simp [pl_len]; omega
  · exact fun x hx => pl_isD x (List.mem_reverse.1 (List.mem_of_mem_take hx))
  · exact fun x hx => pl_isD x (List.mem_reverse.1 (List.mem_of_mem_drop hx))
  · intro e
    have := of_decide_eq_false e
    refine List.drop_eq_nil_of_le ?_
    simp [pl_len]; omega
  · intro e
    have := of_decide_eq_true e
    refine ⟨fun e => ?_, ?_⟩
    · have := congrArg List.length e
      simp [pl_len] at this; omega
    · simp [pl_len]; omega
  · simp [pl_len]; omega
  · rw [List.take_append_drop, valD_pl, Nat.mod_eq_of_lt hv]
  · unfold printF txt
    rw [h, if_neg (by decide)]
    simp only [Int.toNat_natCast, decide_eq_true_eq]
theorem right_nz {d : Dc} (h : d.right = true) : (d.neg && decide (d.c = 0)) = false := by
  unfold Dc.right at h
  simp only [Bool.and_eq_true, Bool.not_eq_true'] at h
  exact h.2.2.2
theorem read_print {d : Dc} (h : d.right = true) : readF (printF d) = okD d := by
  obtain ⟨W, R, pt, h0, h30, hW, hR, h1, h2, hs, hv, e⟩ := print_parts h
  obtain ⟨a1, a2, a3⟩ := Dc.right_c h
  rw [e, read_txt h0 hW hR h1 h2, hv, hs, if_neg (by omega), if_neg (by omega), right_nz h, if_neg (by decide)]
/-- A zero ahead. -/
theorem read_zero {d : Dc} (h : d.right = true) : ∃ U : List UInt8, ∃ u : UInt8, printF d = (if d.neg = true then [45] else []) ++ u :: U ∧ isD u = true ∧ u :: U ≠ [] ∧ (u :: U).length ≤ 32 ∧
    (readF ((if d.neg = true then [45] else []) ++ 48 :: u :: U) = okD d ∨ ∃ e : Int, e ≠ 0 ∧ readF ((if d.neg = true then [45] else []) ++ 48 :: u :: U) = errD e) := by
  obtain ⟨W, R, pt, h0, h30, hW, hR, h1, h2, hs, hv, e⟩ := print_parts h
  obtain ⟨a1, a2, a3⟩ := Dc.right_c h
  obtain ⟨u, W, rfl⟩ := List.exists_cons_of_ne_nil h0
  have hlen := print_len h
  refine ⟨W ++ (if pt = true then [46] ++ R else []), u, e.trans rfl, hW u (List.mem_cons_self ..), by simp, ?_, ?_⟩
  · rw [e] at hlen
    unfold txt at hlen
    rw [List.length_append] at hlen
    exact Nat.le_trans (Nat.le_add_left _ _) hlen
  · have hz : ∀ x ∈ 48 :: u :: W, isD x = true := fun x hx => by
      rcases List.mem_cons.1 hx with rfl | g
      · rfl
      · exact hW x g
    have := read_txt (ng := d.neg) (pt := pt) (W := 48 :: u :: W) (R := R) (by simp) hz hR h1 h2
    have e2 : valD (48 :: u :: W ++ R) = valD (u :: W ++ R) := rfl
    rw [e2, hv, hs, if_neg (show ¬ 10 ^ 30 ≤ d.c by omega), right_nz h, if_neg (show ¬ false = true by decide)] at this
    show readF (txt d.neg (48 :: u :: W) pt R) = okD d ∨ ∃ e : Int, e ≠ 0 ∧ readF (txt d.neg (48 :: u :: W) pt R) = errD e
    rw [this]
    by_cases g : 30 < (48 :: u :: W).length
    · rw [if_pos g]; exact .inr ⟨2, by decide, rfl⟩
    · rw [if_neg g]; exact .inl rfl
end Go.Ev
end

/- The document's digits, Neg, Cmp, Add, Sub, Mul, Scaled of decimals. No condition. -/
noncomputable section
namespace Go.Ev
open Go.Proofs
set_option linter.unusedVariables false
set_option maxRecDepth 100000

theorem rdigits_spec {z : St} (wf : WF z) (d : Dc) (hd : d.c < w128) (hr : d.right = true) {S : Int} (h1 : d.scale ≤ S) (h2 : S ≤ 9) :
    Cw Tryd.prog 61 [d.val, .int .i64 S] z fun r s' => K0 z s' ∧ Nd z s' r (d.c * 10 ^ (S - d.scale).toNat) 60 := by
  have hp : Hp (fun _ => False) z [] [] z := Hp.start _ wf _ (by simp)
  obtain ⟨a1, a2, a3⟩ := Dc.right_c hr
  obtain ⟨k, hk⟩ : ∃ k : Nat, S - d.scale = k := ⟨(S - d.scale).toNat, by omega⟩
  have ek : IntKind.i64.wrap (S - d.scale) = (k : Int) := by rw [wi64 (by omega) (by omega)]; exact hk
  have en : (S - d.scale).toNat = k := by omega
  rw [en]
  refine Cw.enterS Tryd.func61 rfl rfl ?_
  refine Sm.seqW ?_
  conv => whnf
  refine hp.var (cs := d.cells) (e := 4) rfl rfl ?_
  clear hp
  intro p2 s hp _
  conv => whnf
  refine Sm.live [1, 2] ?_
  conv => whnf
  refine Sm.seqW ?_
  conv => whnf
  refine ⟨[0, 1, 3, 0, 0, 16, 56, 127, 255, 511], by decide +kernel, by decide +kernel, ?_⟩
  conv => whnf
  refine hp.loadA (l := C2 (d.c % w64) (d.c / w64)) (by repeat (first | exact Has.here | apply Has.there | (apply Has.swap; repeat (first | exact HasR.here | apply HasR.there)))) rfl (by rfl) rfl rfl ?_
  conv => whnf
  refine hp.rst.call (nat2_spec hp.rst.wf hd) ?_
  intro v5 s5 h5 g5 k5
  obtain ⟨κ5, l5, hnew, d5, e5, n5⟩ := hp.rst.nd k5 h5
  conv => whnf
  refine hp.dkN hnew k5 ?_
  clear hp hnew g5 h5 k5
  intro s hp
  conv => whnf
  refine hp.load (v := .int .i64 d.scale) (by repeat (first | exact Has.here | apply Has.there | (apply Has.swap; repeat (first | exact HasR.here | apply HasR.there)))) (by rfl) rfl rfl rfl ?_
  conv => whnf
  rw [ek]
  refine hp.rst.call (tenNat_spec hp.rst.wf (k := k) (by omega)) ?_
  intro v6 s6 h6 g6 k6
  obtain ⟨κ6, l6, hnew, d6, e6, n6⟩ := hp.rst.nd k6 h6
  conv => whnf
  refine hp.dkN hnew k6 ?_
  clear hp hnew g6 h6 k6
  intro s hp
  conv => whnf
  refine hp.rst.call (mulNat_spec hp.rst.wf (l := l5) (m := l6) (hp.rst.okF (slA κ5 v5 1 l5.length (natI l5)) (by simp)) (hp.rst.okF (slA κ6 v6 1 l6.length (natI l6)) (by simp)) d5.lt d6.lt (by omega) (by omega)) ?_
  intro v7 s7 h7 g7 k7
  obtain ⟨κ7, l7, hnew, d7, e7, n7⟩ := hp.rst.nd k7 h7
  conv => whnf
  refine hp.dkN hnew k7 ?_
  clear hp hnew g7 h7 k7
  intro s hp
  conv => whnf
  refine Sm.ofW ?_
  conv => whnf
  refine ⟨hp.fr, hp.outN (by repeat (first | exact Rm.here | apply Rm.there)) d7 ?_ (by omega)⟩
  rw [e7, e5, e6]
theorem rneg_spec {z : St} (wf : WF z) (d : Dc) (hd : d.c < w128) : Cw Tryd.prog 32 [d.val] z fun r s' => K0 z s' ∧ r = (negF d).val := by
  have hp : Hp (fun _ => False) z [] [] z := Hp.start _ wf _ (by simp)
  refine Cw.enterS Tryd.func32 rfl rfl ?_
  refine Sm.seqW ?_
  conv => whnf
  refine hp.var (cs := d.cells) (e := 4) rfl rfl ?_
  clear hp
  intro p1 s hp _
  conv => whnf
  refine hp.alloc (cs := Dc.zero.cells) (e := 4) rfl rfl rfl rfl rfl ?_
  clear hp
  intro p2 s hp _
  conv => whnf
  refine Sm.seq ?_
  refine Sm.seqW ?_
  conv => whnf
  refine hp.loadA (l := d.cells) (by repeat (first | exact Has.here | apply Has.there | (apply Has.swap; repeat (first | exact HasR.here | apply HasR.there)))) rfl (by rfl) rfl rfl ?_
  conv => whnf
  refine hp.call (rightDec_spec hp.wf d hd) ?_
  clear hp
  rintro _ s rfl hp _
  conv => whnf
  cases hr : d.right with
  | false =>
    refine Sm.ofW ?_
    conv => whnf
    repeat (first | (refine Br.yes (by first | with_reducible rfl | with_reducible exact beq_self_eq_true _ | rfl) ?_; conv => whnf) | (refine Br.no (by first | with_reducible rfl | with_reducible exact bne_self_eq_false _ | rfl) ?_; conv => whnf))
    have e : negF d = Dc.zero := by unfold negF; rw [if_neg (by rw [hr]; decide)]
    rw [e]
    refine hp.storeW (vs := Dc.zero.cells) rfl (by repeat (first | exact Rm.here | apply Rm.there)) (by first | exact C2_same _ _ _ _ | exact C4_same _ _ _ _ _ _ _ _ | exact Dc_same _ _ | rfl) rfl rfl rfl ?_
    clear hp
    intro s hp _
    conv => whnf
    refine hp.loadA (l := Dc.zero.cells) (by repeat (first | exact Has.here | apply Has.there | (apply Has.swap; repeat (first | exact HasR.here | apply HasR.there)))) rfl (by rfl) rfl rfl ?_
    conv => whnf
    exact ⟨hp.fr, rfl⟩
  | true =>
    refine Sm.ofW ?_
    conv => whnf
    repeat (first | (refine Br.yes (by first | with_reducible rfl | with_reducible exact beq_self_eq_true _ | rfl) ?_; conv => whnf) | (refine Br.no (by first | with_reducible rfl | with_reducible exact bne_self_eq_false _ | rfl) ?_; conv => whnf))
    have e : negF d = ⟨!d.neg && !decide (d.c = 0), d.c, d.scale⟩ := by unfold negF; rw [if_pos hr]
    rw [e]
    clear e hr
    obtain ⟨ng, n, sc⟩ := d
    simp only at hd ⊢
    refine Sm.live [1, 2] ?_
    conv => whnf
    refine Sm.seqW ?_
    conv => whnf
    refine hp.load (v := .bool ng) (by repeat (first | exact Has.here | apply Has.there | (apply Has.swap; repeat (first | exact HasR.here | apply HasR.there)))) (by rfl) rfl rfl rfl ?_
    conv => whnf
    cases ng with
    | true =>
      repeat (first | (refine Br.yes (by first | with_reducible rfl | with_reducible exact beq_self_eq_true _ | rfl) ?_; conv => whnf) | (refine Br.no (by first | with_reducible rfl | with_reducible exact bne_self_eq_false _ | rfl) ?_; conv => whnf))
      refine hp.store (off := 0) (by repeat (first | exact Rm.here | apply Rm.there)) (by show 0 < 4; decide) rfl rfl rfl rfl ?_
      clear hp
      intro s hp _
      conv => whnf
      refine Sm.seqW ?_
      conv => whnf
      refine hp.loadA (l := Dc.cells ⟨false, n, sc⟩) (by repeat (first | exact Has.here | apply Has.there | (apply Has.swap; repeat (first | exact HasR.here | apply HasR.there)))) rfl (by rfl) rfl rfl ?_
      conv => whnf
      refine hp.storeW (vs := Dc.cells ⟨false, n, sc⟩) rfl (by repeat (first | exact Rm.here | apply Rm.there)) (Dc_same _ Dc.zero) rfl rfl rfl ?_
      clear hp
      intro s hp _
      conv => whnf
      refine Sm.ofW ?_
      conv => whnf
      refine hp.loadA (l := Dc.cells ⟨false, n, sc⟩) (by repeat (first | exact Has.here | apply Has.there | (apply Has.swap; repeat (first | exact HasR.here | apply HasR.there)))) rfl (by rfl) rfl rfl ?_
      conv => whnf
      exact ⟨hp.fr, rfl⟩
    | false =>
      repeat (first | (refine Br.yes (by first | with_reducible rfl | with_reducible exact beq_self_eq_true _ | rfl) ?_; conv => whnf) | (refine Br.no (by first | with_reducible rfl | with_reducible exact bne_self_eq_false _ | rfl) ?_; conv => whnf))
      refine hp.loadA (l := C2 (n % w64) (n / w64)) (by repeat (first | exact Has.here | apply Has.there | (apply Has.swap; repeat (first | exact HasR.here | apply HasR.there)))) rfl (by rfl) rfl rfl ?_
      conv => whnf
      repeat (first | (refine Br.yes (by first | with_reducible rfl | with_reducible exact beq_self_eq_true _ | rfl) ?_; conv => whnf) | (refine Br.no (by first | with_reducible rfl | with_reducible exact bne_self_eq_false _ | rfl) ?_; conv => whnf))
      refine Om.of _ (z_ne n _) ?_
      conv => whnf
      repeat (first | (refine Br.yes (by first | with_reducible rfl | with_reducible exact beq_self_eq_true _ | rfl) ?_; conv => whnf) | (refine Br.no (by first | with_reducible rfl | with_reducible exact bne_self_eq_false _ | rfl) ?_; conv => whnf))
      refine hp.store (off := 0) (by repeat (first | exact Rm.here | apply Rm.there)) (by show 0 < 4; decide) rfl rfl rfl rfl ?_
      clear hp
      intro s hp _
      conv => whnf
      refine Sm.seqW ?_
      conv => whnf
      refine hp.loadA (l := Dc.cells ⟨!decide (n = 0), n, sc⟩) (by repeat (first | exact Has.here | apply Has.there | (apply Has.swap; repeat (first | exact HasR.here | apply HasR.there)))) rfl (by rfl) rfl rfl ?_
      conv => whnf
      refine hp.storeW (vs := Dc.cells ⟨!decide (n = 0), n, sc⟩) rfl (by repeat (first | exact Rm.here | apply Rm.there)) (Dc_same _ Dc.zero) rfl rfl rfl ?_
      clear hp
      intro s hp _
      conv => whnf
      refine Sm.ofW ?_
      conv => whnf
      refine hp.loadA (l := Dc.cells ⟨!decide (n = 0), n, sc⟩) (by repeat (first | exact Has.here | apply Has.there | (apply Has.swap; repeat (first | exact HasR.here | apply HasR.there)))) rfl (by rfl) rfl rfl ?_
      conv => whnf
      exact ⟨hp.fr, rfl⟩
theorem rcmp_spec {z : St} (wf : WF z) (a b : Dc) (ha : a.c < w128) (hb : b.c < w128) : Cw Tryd.prog 34 [a.val, b.val] z fun r s' => K0 z s' ∧ r = .int .i64 (cmpF a b) := by
  have hp : Hp (fun _ => False) z [] [] z := Hp.start _ wf _ (by simp)
  refine Cw.enterS Tryd.func34 rfl rfl ?_
  refine Sm.seqW ?_
  conv => whnf
  refine hp.var (cs := a.cells) (e := 4) rfl rfl ?_
  clear hp
  intro p2 s hp _
  conv => whnf
  refine hp.var (cs := b.cells) (e := 4) rfl rfl ?_
  clear hp
  intro p3 s hp _
  conv => whnf
  refine Sm.live [2, 3] ?_
  conv => whnf
  refine Sm.seq ?_
  refine Sm.seqW ?_
  conv => whnf
  refine hp.loadA (l := a.cells) (by repeat (first | exact Has.here | apply Has.there | (apply Has.swap; repeat (first | exact HasR.here | apply HasR.there)))) rfl (by rfl) rfl rfl ?_
  conv => whnf
  refine hp.call (rightDec_spec hp.wf a ha) ?_
  clear hp
  rintro _ s rfl hp _
  conv => whnf
  cases hr : a.right with
  | false =>
    repeat (first | (refine Br.yes (by first | with_reducible rfl | with_reducible exact beq_self_eq_true _ | rfl) ?_; conv => whnf) | (refine Br.no (by first | with_reducible rfl | with_reducible exact bne_self_eq_false _ | rfl) ?_; conv => whnf))
    refine Sm.ofW ?_
    conv => whnf
    repeat (first | (refine Br.yes (by first | with_reducible rfl | with_reducible exact beq_self_eq_true _ | rfl) ?_; conv => whnf) | (refine Br.no (by first | with_reducible rfl | with_reducible exact bne_self_eq_false _ | rfl) ?_; conv => whnf))
    exact ⟨hp.fr, congrArg (Value.int .i64) (by unfold cmpF; rw [if_pos (.inl hr)])⟩
  | true =>
    repeat (first | (refine Br.yes (by first | with_reducible rfl | with_reducible exact beq_self_eq_true _ | rfl) ?_; conv => whnf) | (refine Br.no (by first | with_reducible rfl | with_reducible exact bne_self_eq_false _ | rfl) ?_; conv => whnf))
    refine hp.loadA (l := b.cells) (by repeat (first | exact Has.here | apply Has.there | (apply Has.swap; repeat (first | exact HasR.here | apply HasR.there)))) rfl (by rfl) rfl rfl ?_
    conv => whnf
    repeat (first | (refine Br.yes (by first | with_reducible rfl | with_reducible exact beq_self_eq_true _ | rfl) ?_; conv => whnf) | (refine Br.no (by first | with_reducible rfl | with_reducible exact bne_self_eq_false _ | rfl) ?_; conv => whnf))
    refine hp.call (rightDec_spec hp.wf b hb) ?_
    clear hp
    rintro _ s rfl hp _
    conv => whnf
    cases hrb : b.right with
    | false =>
      repeat (first | (refine Br.yes (by first | with_reducible rfl | with_reducible exact beq_self_eq_true _ | rfl) ?_; conv => whnf) | (refine Br.no (by first | with_reducible rfl | with_reducible exact bne_self_eq_false _ | rfl) ?_; conv => whnf))
      refine Sm.ofW ?_
      conv => whnf
      repeat (first | (refine Br.yes (by first | with_reducible rfl | with_reducible exact beq_self_eq_true _ | rfl) ?_; conv => whnf) | (refine Br.no (by first | with_reducible rfl | with_reducible exact bne_self_eq_false _ | rfl) ?_; conv => whnf))
      exact ⟨hp.fr, congrArg (Value.int .i64) (by unfold cmpF; rw [if_pos (.inr hrb)])⟩
    | true =>
      obtain ⟨a1, a2, a3⟩ := Dc.right_c hr
      obtain ⟨b1, b2, b3⟩ := Dc.right_c hrb
      repeat (first | (refine Br.yes (by first | with_reducible rfl | with_reducible exact beq_self_eq_true _ | rfl) ?_; conv => whnf) | (refine Br.no (by first | with_reducible rfl | with_reducible exact bne_self_eq_false _ | rfl) ?_; conv => whnf))
      refine Sm.ofW ?_
      conv => whnf
      repeat (first | (refine Br.yes (by first | with_reducible rfl | with_reducible exact beq_self_eq_true _ | rfl) ?_; conv => whnf) | (refine Br.no (by first | with_reducible rfl | with_reducible exact bne_self_eq_false _ | rfl) ?_; conv => whnf))
      refine Sm.seqW ?_
      conv => whnf
      refine hp.loadA (l := a.cells) (by repeat (first | exact Has.here | apply Has.there | (apply Has.swap; repeat (first | exact HasR.here | apply HasR.there)))) rfl (by rfl) rfl rfl ?_
      conv => whnf
      refine hp.call (rsign_spec hp.wf a ha) ?_
      clear hp
      rintro _ s rfl hp _
      conv => whnf
      refine Sm.live [2, 3, 5] ?_
      conv => whnf
      refine Sm.seqW ?_
      conv => whnf
      refine hp.loadA (l := b.cells) (by repeat (first | exact Has.here | apply Has.there | (apply Has.swap; repeat (first | exact HasR.here | apply HasR.there)))) rfl (by rfl) rfl rfl ?_
      conv => whnf
      refine hp.call (rsign_spec hp.wf b hb) ?_
      clear hp
      rintro _ s rfl hp _
      conv => whnf
      refine Sm.live [2, 3, 5, 6] ?_
      conv => whnf
      refine Sm.seq ?_
      refine Sm.seqW ?_
      conv => whnf
      refine Sm.live [2, 3, 5, 6, 22] ?_
      conv => whnf
      refine Sm.ofW ?_
      conv => whnf
      by_cases hs : signF a = signF b
      · refine Br.no (bne_eq_false_iff_eq.2 hs) ?_
        conv => whnf
        refine Sm.seqW ?_
        conv => whnf
        refine hp.load (v := .int .i64 a.scale) (by repeat (first | exact Has.here | apply Has.there | (apply Has.swap; repeat (first | exact HasR.here | apply HasR.there)))) (by rfl) rfl rfl rfl ?_
        conv => whnf
        refine hp.load (v := .int .i64 b.scale) (by repeat (first | exact Has.here | apply Has.there | (apply Has.swap; repeat (first | exact HasR.here | apply HasR.there)))) (by rfl) rfl rfl rfl ?_
        conv => whnf
        have em2 : (if b.scale > a.scale then b.scale else a.scale) = max a.scale b.scale := by split <;> omega
        rw [em2]
        generalize hS : max a.scale b.scale = S at *
        refine Sm.live [2, 3, 5, 7] ?_
        conv => whnf
        refine Sm.seqW ?_
        conv => whnf
        refine ⟨[0, 0, 0, 6, 0, 0, 62, 126, 255, 511], by decide +kernel, by decide +kernel, ?_⟩
        conv => whnf
        refine hp.loadA (l := a.cells) (by repeat (first | exact Has.here | apply Has.there | (apply Has.swap; repeat (first | exact HasR.here | apply HasR.there)))) rfl (by rfl) rfl rfl ?_
        conv => whnf
        refine hp.rst.call (rdigits_spec hp.rst.wf a ha hr (S := S) (by omega) (by omega)) ?_
        intro v7 s7 h7 g7 k7
        obtain ⟨κ7, l7, hnew, d7, e7, n7⟩ := hp.rst.nd k7 h7
        conv => whnf
        refine hp.dkN hnew k7 ?_
        clear hp hnew g7 h7 k7
        intro s hp
        conv => whnf
        refine hp.loadA (l := b.cells) (by repeat (first | exact Has.here | apply Has.there | (apply Has.swap; repeat (first | exact HasR.here | apply HasR.there)))) rfl (by rfl) rfl rfl ?_
        conv => whnf
        refine hp.rst.call (rdigits_spec hp.rst.wf b hb hrb (S := S) (by omega) (by omega)) ?_
        intro v8 s8 h8 g8 k8
        obtain ⟨κ8, l8, hnew, d8, e8, n8⟩ := hp.rst.nd k8 h8
        conv => whnf
        refine hp.dkN hnew k8 ?_
        clear hp hnew g8 h8 k8
        intro s hp
        conv => whnf
        refine (cmpNat_spec _ (hp.rst.okF (slA κ7 v7 1 l7.length (natI l7)) (by simp)) (hp.rst.okF (slA κ8 v8 1 l8.length (natI l8)) (by simp)) d7 d8 (by omega) (by omega)).mono ?_
        rintro _ s1 ⟨h1, rfl⟩
        obtain rfl := h1.symm
        conv => whnf
        refine hp.dkS ?_
        conv => whnf
        refine Sm.ofW ?_
        conv => whnf
        refine ⟨hp.fr, congrArg (Value.int .i64) ?_⟩
        rw [cmp_same hr hrb hs, hS, e7, e8]
        rcases cmpI_cases (a.c * 10 ^ (S - a.scale).toNat) (b.c * 10 ^ (S - b.scale).toNat) with e | e | e <;> rcases (up_sign S hr).2.2.2 with g | g | g <;> rw [e, g] <;> rfl
      · refine Br.yes (bne_iff_ne.2 hs) ?_
        conv => whnf
        by_cases hlt : signF a < signF b
        · refine Br.yes (decide_eq_true hlt) ?_
          conv => whnf
          exact ⟨hp.fr, congrArg (Value.int .i64) (by rw [cmp_sign hr hrb hs, if_pos hlt])⟩
        · refine Br.no (decide_eq_false hlt) ?_
          conv => whnf
          exact ⟨hp.fr, congrArg (Value.int .i64) (by rw [cmp_sign hr hrb hs, if_neg hlt])⟩
theorem radd_spec {z : St} (wf : WF z) (a b : Dc) (ha : a.c < w128) (hb : b.c < w128) : Cw Tryd.prog 25 [a.val, b.val] z fun r s' => K0 z s' ∧ r = addF a b := by
  have hp : Hp (fun _ => False) z [] [] z := Hp.start _ wf _ (by simp)
  refine Cw.enterS Tryd.func25 rfl rfl ?_
  refine Sm.seqW ?_
  conv => whnf
  refine hp.var (cs := a.cells) (e := 4) rfl rfl ?_
  clear hp
  intro p2 s hp _
  conv => whnf
  refine hp.var (cs := b.cells) (e := 4) rfl rfl ?_
  clear hp
  intro p3 s hp _
  conv => whnf
  refine hp.alloc (cs := Dc.zero.cells) (e := 4) rfl rfl rfl rfl rfl ?_
  clear hp
  intro p4 s hp _
  conv => whnf
  refine Sm.live [2, 3, 4] ?_
  conv => whnf
  refine Sm.seq ?_
  refine Sm.seqW ?_
  conv => whnf
  refine hp.loadA (l := a.cells) (by repeat (first | exact Has.here | apply Has.there | (apply Has.swap; repeat (first | exact HasR.here | apply HasR.there)))) rfl (by rfl) rfl rfl ?_
  conv => whnf
  refine hp.call (rightDec_spec hp.wf a ha) ?_
  clear hp
  rintro _ s rfl hp _
  conv => whnf
  cases hr : a.right with
  | false =>
    repeat (first | (refine Br.yes (by first | with_reducible rfl | with_reducible exact beq_self_eq_true _ | rfl) ?_; conv => whnf) | (refine Br.no (by first | with_reducible rfl | with_reducible exact bne_self_eq_false _ | rfl) ?_; conv => whnf))
    refine Sm.ofW ?_
    conv => whnf
    repeat (first | (refine Br.yes (by first | with_reducible rfl | with_reducible exact beq_self_eq_true _ | rfl) ?_; conv => whnf) | (refine Br.no (by first | with_reducible rfl | with_reducible exact bne_self_eq_false _ | rfl) ?_; conv => whnf))
    refine hp.storeW (vs := Dc.zero.cells) rfl (by repeat (first | exact Rm.here | apply Rm.there)) (by first | exact C2_same _ _ _ _ | exact C4_same _ _ _ _ _ _ _ _ | exact Dc_same _ _ | rfl) rfl rfl rfl ?_
    clear hp
    intro s hp _
    conv => whnf
    refine hp.loadA (l := Dc.zero.cells) (by repeat (first | exact Has.here | apply Has.there | (apply Has.swap; repeat (first | exact HasR.here | apply HasR.there)))) rfl (by rfl) rfl rfl ?_
    conv => whnf
    exact ⟨hp.fr, by unfold addF; rw [if_pos (.inl hr)]; rfl⟩
  | true =>
    repeat (first | (refine Br.yes (by first | with_reducible rfl | with_reducible exact beq_self_eq_true _ | rfl) ?_; conv => whnf) | (refine Br.no (by first | with_reducible rfl | with_reducible exact bne_self_eq_false _ | rfl) ?_; conv => whnf))
    refine hp.loadA (l := b.cells) (by repeat (first | exact Has.here | apply Has.there | (apply Has.swap; repeat (first | exact HasR.here | apply HasR.there)))) rfl (by rfl) rfl rfl ?_
    conv => whnf
    repeat (first | (refine Br.yes (by first | with_reducible rfl | with_reducible exact beq_self_eq_true _ | rfl) ?_; conv => whnf) | (refine Br.no (by first | with_reducible rfl | with_reducible exact bne_self_eq_false _ | rfl) ?_; conv => whnf))
    refine hp.call (rightDec_spec hp.wf b hb) ?_
    clear hp
    rintro _ s rfl hp _
    conv => whnf
    cases hrb : b.right with
    | false =>
      repeat (first | (refine Br.yes (by first | with_reducible rfl | with_reducible exact beq_self_eq_true _ | rfl) ?_; conv => whnf) | (refine Br.no (by first | with_reducible rfl | with_reducible exact bne_self_eq_false _ | rfl) ?_; conv => whnf))
      refine Sm.ofW ?_
      conv => whnf
      repeat (first | (refine Br.yes (by first | with_reducible rfl | with_reducible exact beq_self_eq_true _ | rfl) ?_; conv => whnf) | (refine Br.no (by first | with_reducible rfl | with_reducible exact bne_self_eq_false _ | rfl) ?_; conv => whnf))
      refine hp.storeW (vs := Dc.zero.cells) rfl (by repeat (first | exact Rm.here | apply Rm.there)) (by first | exact C2_same _ _ _ _ | exact C4_same _ _ _ _ _ _ _ _ | exact Dc_same _ _ | rfl) rfl rfl rfl ?_
      clear hp
      intro s hp _
      conv => whnf
      refine hp.loadA (l := Dc.zero.cells) (by repeat (first | exact Has.here | apply Has.there | (apply Has.swap; repeat (first | exact HasR.here | apply HasR.there)))) rfl (by rfl) rfl rfl ?_
      conv => whnf
      exact ⟨hp.fr, by unfold addF; rw [if_pos (.inr hrb)]; rfl⟩
    | true =>
      obtain ⟨a1, a2, a3⟩ := Dc.right_c hr
      obtain ⟨b1, b2, b3⟩ := Dc.right_c hrb
      repeat (first | (refine Br.yes (by first | with_reducible rfl | with_reducible exact beq_self_eq_true _ | rfl) ?_; conv => whnf) | (refine Br.no (by first | with_reducible rfl | with_reducible exact bne_self_eq_false _ | rfl) ?_; conv => whnf))
      refine Sm.ofW ?_
      conv => whnf
      repeat (first | (refine Br.yes (by first | with_reducible rfl | with_reducible exact beq_self_eq_true _ | rfl) ?_; conv => whnf) | (refine Br.no (by first | with_reducible rfl | with_reducible exact bne_self_eq_false _ | rfl) ?_; conv => whnf))
      refine Sm.seqW ?_
      conv => whnf
      refine hp.load (v := .int .i64 a.scale) (by repeat (first | exact Has.here | apply Has.there | (apply Has.swap; repeat (first | exact HasR.here | apply HasR.there)))) (by rfl) rfl rfl rfl ?_
      conv => whnf
      refine hp.load (v := .int .i64 b.scale) (by repeat (first | exact Has.here | apply Has.there | (apply Has.swap; repeat (first | exact HasR.here | apply HasR.there)))) (by rfl) rfl rfl rfl ?_
      conv => whnf
      have em2 : (if b.scale > a.scale then b.scale else a.scale) = max a.scale b.scale := by split <;> omega
      have hfin : addF a b = mkI (up a (max a.scale b.scale) + up b (max a.scale b.scale)) (max a.scale b.scale) := by unfold addF; rw [if_neg (by simp [hr, hrb])]
      rw [em2]
      generalize hS : max a.scale b.scale = S at *
      have hsame := add_same (a := a) (b := b) (S := S)
      have hleft := add_left (a := a) (b := b) (S := S)
      have hright := add_right (a := a) (b := b) (S := S)
      refine Sm.live [2, 3, 4, 6] ?_
      conv => whnf
      refine Sm.seqW ?_
      conv => whnf
      refine hp.loadA (l := a.cells) (by repeat (first | exact Has.here | apply Has.there | (apply Has.swap; repeat (first | exact HasR.here | apply HasR.there)))) rfl (by rfl) rfl rfl ?_
      conv => whnf
      refine hp.call (rdigits_spec hp.wf a ha hr (S := S) (by omega) (by omega)) ?_
      intro v7 s7 h7 g7 k7
      obtain ⟨κ7, l7, hnew, d7, e7, n7⟩ := hp.nd k7 h7
      clear hp g7 h7 k7
      have hp := hnew
      clear hnew
      conv => whnf
      refine Sm.live [2, 3, 4, 6, 7] ?_
      conv => whnf
      refine Sm.seqW ?_
      conv => whnf
      refine hp.loadA (l := b.cells) (by repeat (first | exact Has.here | apply Has.there | (apply Has.swap; repeat (first | exact HasR.here | apply HasR.there)))) rfl (by rfl) rfl rfl ?_
      conv => whnf
      refine hp.call (rdigits_spec hp.wf b hb hrb (S := S) (by omega) (by omega)) ?_
      intro v8 s8 h8 g8 k8
      obtain ⟨κ8, l8, hnew, d8, e8, n8⟩ := hp.nd k8 h8
      clear hp g8 h8 k8
      have hp := hnew
      clear hnew
      conv => whnf
      have S1 : 0 ≤ S ∧ S ≤ 9 := by omega
      generalize a.c * 10 ^ (S - a.scale).toNat = x at *
      generalize b.c * 10 ^ (S - b.scale).toNat = y at *
      refine Sm.live [2, 3, 4, 6, 7, 8] ?_
      conv => whnf
      refine Sm.seq ?_
      refine Sm.block ?_
      refine Sm.seqW ?_
      conv => whnf
      refine hp.load (v := .bool a.neg) (by repeat (first | exact Has.here | apply Has.there | (apply Has.swap; repeat (first | exact HasR.here | apply HasR.there)))) (by rfl) rfl rfl rfl ?_
      conv => whnf
      refine hp.load (v := .bool b.neg) (by repeat (first | exact Has.here | apply Has.there | (apply Has.swap; repeat (first | exact HasR.here | apply HasR.there)))) (by rfl) rfl rfl rfl ?_
      conv => whnf
      refine Om.of _ (rfl) ?_
      conv => whnf
      refine Sm.live [2, 3, 4, 6, 7, 8, 29] ?_
      conv => whnf
      refine Sm.ofW ?_
      conv => whnf
      by_cases hn : a.neg = b.neg
      · refine Br.yes (beq_iff_eq.2 hn) ?_
        conv => whnf
        refine ⟨[0, 1, 0, 0, 12, 0, 63, 127, 127, 511, 1023], by decide +kernel, by decide +kernel, ?_⟩
        conv => whnf
        refine hp.load (v := .bool a.neg) (by repeat (first | exact Has.here | apply Has.there | (apply Has.swap; repeat (first | exact HasR.here | apply HasR.there)))) (by rfl) rfl rfl rfl ?_
        conv => whnf
        refine hp.rst.call (addNat_spec hp.rst.wf (l := l7) (m := l8) (hp.rst.okF (slA κ7 v7 1 l7.length (natI l7)) (by simp)) (hp.rst.okF (slA κ8 v8 1 l8.length (natI l8)) (by simp)) d7.lt d8.lt (by omega) (by omega)) ?_
        intro v9 s9 h9 g9 k9
        obtain ⟨κ9, l9, hnew, d9, e9, n9⟩ := hp.rst.nd k9 h9
        conv => whnf
        refine hp.dkN hnew k9 ?_
        clear hp hnew g9 h9 k9
        intro s hp
        conv => whnf
        refine hp.rst.call (make_spec hp.rst.wf a.neg (l := l9) (hp.rst.okF (slA κ9 v9 1 l9.length (natI l9)) (by simp)) d9 (by omega) S) ?_
        rintro _ s1 rfl h1 k1
        conv => whnf
        refine hp.dkN h1 k1 ?_
        clear hp h1 k1
        intro s hp
        conv => whnf
        rw [makeF_ok S1.1 S1.2, e9, e7, e8, hsame hn, ← hfin]
        obtain ⟨r, re, hx⟩ := addF_shape a b
        rw [hx]
        conv => whnf
        refine hp.rst.storeW (vs := r.cells) rfl (by repeat (first | exact Rm.here | apply Rm.there)) (by first | exact C2_same _ _ _ _ | exact C4_same _ _ _ _ _ _ _ _ | exact Dc_same _ _ | rfl) rfl rfl rfl ?_
        intro s1 h1 l1
        conv => whnf
        refine hp.dkW h1 l1 ?_
        clear hp h1 l1
        intro s hp
        conv => whnf
        refine hp.loadA (l := r.cells) (by repeat (first | exact Has.here | apply Has.there | (apply Has.swap; repeat (first | exact HasR.here | apply HasR.there)))) rfl (by rfl) rfl rfl ?_
        conv => whnf
        exact ⟨hp.fr, rfl⟩
      · refine Br.no (beq_eq_false_iff_ne.2 hn) ?_
        conv => whnf
        refine (cmpNat_spec _ (hp.okF (slA κ7 v7 1 l7.length (natI l7)) (by simp)) (hp.okF (slA κ8 v8 1 l8.length (natI l8)) (by simp)) d7 d8 (by omega) (by omega)).mono ?_
        rintro _ s1 ⟨h1, rfl⟩
        obtain rfl := h1.symm
        conv => whnf
        rw [e7, e8]
        by_cases hle : y ≤ x
        · have hc : decide (cmpI x y ≥ 0) = true := decide_eq_true (by unfold cmpI; rw [if_neg (by omega)]; split <;> decide)
          refine Br.yes (hc) ?_
          conv => whnf
          refine ⟨[0, 1, 0, 0, 12, 0, 63, 127, 127, 511, 1023], by decide +kernel, by decide +kernel, ?_⟩
          conv => whnf
          refine hp.load (v := .bool a.neg) (by repeat (first | exact Has.here | apply Has.there | (apply Has.swap; repeat (first | exact HasR.here | apply HasR.there)))) (by rfl) rfl rfl rfl ?_
          conv => whnf
          refine hp.rst.call (subNat_spec hp.rst.wf (l := l7) (m := l8) (hp.rst.okF (slA κ7 v7 1 l7.length (natI l7)) (by simp)) (hp.rst.okF (slA κ8 v8 1 l8.length (natI l8)) (by simp)) d7.lt d8.lt (by omega) (by omega) (by rw [e7, e8]; exact hle)) ?_
          intro v9 s9 h9 g9 k9
          obtain ⟨κ9, l9, hnew, d9, e9, n9⟩ := hp.rst.nd k9 h9
          conv => whnf
          refine hp.dkN hnew k9 ?_
          clear hp hnew g9 h9 k9
          intro s hp
          conv => whnf
          refine hp.rst.call (make_spec hp.rst.wf a.neg (l := l9) (hp.rst.okF (slA κ9 v9 1 l9.length (natI l9)) (by simp)) d9 (by omega) S) ?_
          rintro _ s1 rfl h1 k1
          conv => whnf
          refine hp.dkN h1 k1 ?_
          clear hp h1 k1
          intro s hp
          conv => whnf
          rw [makeF_ok S1.1 S1.2, e9, e7, e8, hleft hn hle, ← hfin]
          obtain ⟨r, re, hx⟩ := addF_shape a b
          rw [hx]
          conv => whnf
          refine hp.rst.storeW (vs := r.cells) rfl (by repeat (first | exact Rm.here | apply Rm.there)) (by first | exact C2_same _ _ _ _ | exact C4_same _ _ _ _ _ _ _ _ | exact Dc_same _ _ | rfl) rfl rfl rfl ?_
          intro s1 h1 l1
          conv => whnf
          refine hp.dkW h1 l1 ?_
          clear hp h1 l1
          intro s hp
          conv => whnf
          refine hp.loadA (l := r.cells) (by repeat (first | exact Has.here | apply Has.there | (apply Has.swap; repeat (first | exact HasR.here | apply HasR.there)))) rfl (by rfl) rfl rfl ?_
          conv => whnf
          exact ⟨hp.fr, rfl⟩
        · have hc : decide (cmpI x y ≥ 0) = false := decide_eq_false (by unfold cmpI; rw [if_pos (by omega)]; decide)
          refine Br.no (hc) ?_
          conv => whnf
          refine Sm.seqW ?_
          conv => whnf
          refine ⟨[0, 1, 0, 0, 12, 0, 63, 127, 127, 511, 1023], by decide +kernel, by decide +kernel, ?_⟩
          conv => whnf
          refine hp.load (v := .bool b.neg) (by repeat (first | exact Has.here | apply Has.there | (apply Has.swap; repeat (first | exact HasR.here | apply HasR.there)))) (by rfl) rfl rfl rfl ?_
          conv => whnf
          refine hp.rst.call (subNat_spec hp.rst.wf (l := l8) (m := l7) (hp.rst.okF (slA κ8 v8 1 l8.length (natI l8)) (by simp)) (hp.rst.okF (slA κ7 v7 1 l7.length (natI l7)) (by simp)) d8.lt d7.lt (by omega) (by omega) (by rw [e7, e8]; omega)) ?_
          intro v9 s9 h9 g9 k9
          obtain ⟨κ9, l9, hnew, d9, e9, n9⟩ := hp.rst.nd k9 h9
          conv => whnf
          refine hp.dkN hnew k9 ?_
          clear hp hnew g9 h9 k9
          intro s hp
          conv => whnf
          refine hp.rst.call (make_spec hp.rst.wf b.neg (l := l9) (hp.rst.okF (slA κ9 v9 1 l9.length (natI l9)) (by simp)) d9 (by omega) S) ?_
          rintro _ s1 rfl h1 k1
          conv => whnf
          refine hp.dkN h1 k1 ?_
          clear hp h1 k1
          intro s hp
          conv => whnf
          rw [makeF_ok S1.1 S1.2, e9, e7, e8, hright hn (by omega), ← hfin]
          obtain ⟨r, re, hx⟩ := addF_shape a b
          rw [hx]
          conv => whnf
          refine hp.rst.storeW (vs := r.cells) rfl (by repeat (first | exact Rm.here | apply Rm.there)) (by first | exact C2_same _ _ _ _ | exact C4_same _ _ _ _ _ _ _ _ | exact Dc_same _ _ | rfl) rfl rfl rfl ?_
          intro s1 h1 l1
          conv => whnf
          refine hp.dkW h1 l1 ?_
          clear hp h1 l1
          intro s hp
          conv => whnf
          refine Sm.ofW ?_
          conv => whnf
          refine hp.loadA (l := r.cells) (by repeat (first | exact Has.here | apply Has.there | (apply Has.swap; repeat (first | exact HasR.here | apply HasR.there)))) rfl (by rfl) rfl rfl ?_
          conv => whnf
          exact ⟨hp.fr, rfl⟩
theorem rsub_spec {z : St} (wf : WF z) (a b : Dc) (ha : a.c < w128) (hb : b.c < w128) : Cw Tryd.prog 26 [a.val, b.val] z fun r s' => K0 z s' ∧ r = subF a b := by
  have hp : Hp (fun _ => False) z [] [] z := Hp.start _ wf _ (by simp)
  refine Cw.enterS Tryd.func26 rfl rfl ?_
  refine Sm.seqW ?_
  conv => whnf
  refine hp.var (cs := a.cells) (e := 4) rfl rfl ?_
  clear hp
  intro p2 s hp _
  conv => whnf
  refine hp.var (cs := b.cells) (e := 4) rfl rfl ?_
  clear hp
  intro p3 s hp _
  conv => whnf
  refine hp.alloc (cs := Dc.zero.cells) (e := 4) rfl rfl rfl rfl rfl ?_
  clear hp
  intro p4 s hp _
  conv => whnf
  refine Sm.live [2, 3, 4] ?_
  conv => whnf
  refine Sm.seq ?_
  refine Sm.seqW ?_
  conv => whnf
  refine hp.loadA (l := a.cells) (by repeat (first | exact Has.here | apply Has.there | (apply Has.swap; repeat (first | exact HasR.here | apply HasR.there)))) rfl (by rfl) rfl rfl ?_
  conv => whnf
  refine hp.call (rightDec_spec hp.wf a ha) ?_
  clear hp
  rintro _ s rfl hp _
  conv => whnf
  cases hr : a.right with
  | false =>
    repeat (first | (refine Br.yes (by first | with_reducible rfl | with_reducible exact beq_self_eq_true _ | rfl) ?_; conv => whnf) | (refine Br.no (by first | with_reducible rfl | with_reducible exact bne_self_eq_false _ | rfl) ?_; conv => whnf))
    refine Sm.ofW ?_
    conv => whnf
    repeat (first | (refine Br.yes (by first | with_reducible rfl | with_reducible exact beq_self_eq_true _ | rfl) ?_; conv => whnf) | (refine Br.no (by first | with_reducible rfl | with_reducible exact bne_self_eq_false _ | rfl) ?_; conv => whnf))
    refine hp.storeW (vs := Dc.zero.cells) rfl (by repeat (first | exact Rm.here | apply Rm.there)) (by first | exact C2_same _ _ _ _ | exact C4_same _ _ _ _ _ _ _ _ | exact Dc_same _ _ | rfl) rfl rfl rfl ?_
    clear hp
    intro s hp _
    conv => whnf
    refine hp.loadA (l := Dc.zero.cells) (by repeat (first | exact Has.here | apply Has.there | (apply Has.swap; repeat (first | exact HasR.here | apply HasR.there)))) rfl (by rfl) rfl rfl ?_
    conv => whnf
    exact ⟨hp.fr, by unfold subF; rw [show addF a (negF b) = errD 1 from if_pos (.inl hr)]; split; rfl; rfl⟩
  | true =>
    repeat (first | (refine Br.yes (by first | with_reducible rfl | with_reducible exact beq_self_eq_true _ | rfl) ?_; conv => whnf) | (refine Br.no (by first | with_reducible rfl | with_reducible exact bne_self_eq_false _ | rfl) ?_; conv => whnf))
    refine hp.loadA (l := b.cells) (by repeat (first | exact Has.here | apply Has.there | (apply Has.swap; repeat (first | exact HasR.here | apply HasR.there)))) rfl (by rfl) rfl rfl ?_
    conv => whnf
    repeat (first | (refine Br.yes (by first | with_reducible rfl | with_reducible exact beq_self_eq_true _ | rfl) ?_; conv => whnf) | (refine Br.no (by first | with_reducible rfl | with_reducible exact bne_self_eq_false _ | rfl) ?_; conv => whnf))
    refine hp.call (rightDec_spec hp.wf b hb) ?_
    clear hp
    rintro _ s rfl hp _
    conv => whnf
    cases hrb : b.right with
    | false =>
      repeat (first | (refine Br.yes (by first | with_reducible rfl | with_reducible exact beq_self_eq_true _ | rfl) ?_; conv => whnf) | (refine Br.no (by first | with_reducible rfl | with_reducible exact bne_self_eq_false _ | rfl) ?_; conv => whnf))
      refine Sm.ofW ?_
      conv => whnf
      repeat (first | (refine Br.yes (by first | with_reducible rfl | with_reducible exact beq_self_eq_true _ | rfl) ?_; conv => whnf) | (refine Br.no (by first | with_reducible rfl | with_reducible exact bne_self_eq_false _ | rfl) ?_; conv => whnf))
      refine hp.storeW (vs := Dc.zero.cells) rfl (by repeat (first | exact Rm.here | apply Rm.there)) (by first | exact C2_same _ _ _ _ | exact C4_same _ _ _ _ _ _ _ _ | exact Dc_same _ _ | rfl) rfl rfl rfl ?_
      clear hp
      intro s hp _
      conv => whnf
      refine hp.loadA (l := Dc.zero.cells) (by repeat (first | exact Has.here | apply Has.there | (apply Has.swap; repeat (first | exact HasR.here | apply HasR.there)))) rfl (by rfl) rfl rfl ?_
      conv => whnf
      exact ⟨hp.fr, by unfold subF; rw [if_pos hrb]; rfl⟩
    | true =>
      obtain ⟨a1, a2, a3⟩ := Dc.right_c hr
      obtain ⟨b1, b2, b3⟩ := Dc.right_c hrb
      repeat (first | (refine Br.yes (by first | with_reducible rfl | with_reducible exact beq_self_eq_true _ | rfl) ?_; conv => whnf) | (refine Br.no (by first | with_reducible rfl | with_reducible exact bne_self_eq_false _ | rfl) ?_; conv => whnf))
      refine Sm.ofW ?_
      conv => whnf
      repeat (first | (refine Br.yes (by first | with_reducible rfl | with_reducible exact beq_self_eq_true _ | rfl) ?_; conv => whnf) | (refine Br.no (by first | with_reducible rfl | with_reducible exact bne_self_eq_false _ | rfl) ?_; conv => whnf))
      refine Sm.seqW ?_
      conv => whnf
      refine ⟨[0, 0, 2, 7, 15, 15, 63, 127], by decide +kernel, by decide +kernel, ?_⟩
      conv => whnf
      refine hp.loadA (l := a.cells) (by repeat (first | exact Has.here | apply Has.there | (apply Has.swap; repeat (first | exact HasR.here | apply HasR.there)))) rfl (by rfl) rfl rfl ?_
      conv => whnf
      refine hp.loadA (l := b.cells) (by repeat (first | exact Has.here | apply Has.there | (apply Has.swap; repeat (first | exact HasR.here | apply HasR.there)))) rfl (by rfl) rfl rfl ?_
      conv => whnf
      refine hp.rst.call (rneg_spec hp.rst.wf b hb) ?_
      rintro _ s1 rfl h1 k1
      conv => whnf
      refine hp.dkN h1 k1 ?_
      clear hp h1 k1
      intro s hp
      conv => whnf
      refine hp.rst.call (radd_spec hp.rst.wf a (negF b) ha (negF_c hb)) ?_
      rintro _ s1 rfl h1 k1
      conv => whnf
      refine hp.dkN h1 k1 ?_
      clear hp h1 k1
      intro s hp
      conv => whnf
      have hfin : addF a (negF b) = subF a b := by unfold subF; rw [if_neg (by simp [hrb])]
      rw [hfin]
      obtain ⟨r, re, hx⟩ := subF_shape a b
      rw [hx]
      conv => whnf
      refine hp.rst.storeW (vs := r.cells) rfl (by repeat (first | exact Rm.here | apply Rm.there)) (by first | exact C2_same _ _ _ _ | exact C4_same _ _ _ _ _ _ _ _ | exact Dc_same _ _ | rfl) rfl rfl rfl ?_
      intro s1 h1 l1
      conv => whnf
      refine hp.dkW h1 l1 ?_
      clear hp h1 l1
      intro s hp
      conv => whnf
      refine Sm.ofW ?_
      conv => whnf
      refine hp.loadA (l := r.cells) (by repeat (first | exact Has.here | apply Has.there | (apply Has.swap; repeat (first | exact HasR.here | apply HasR.there)))) rfl (by rfl) rfl rfl ?_
      conv => whnf
      exact ⟨hp.fr, rfl⟩
theorem rmul_spec {z : St} (wf : WF z) (a b : Dc) (ha : a.c < w128) (hb : b.c < w128) : Cw Tryd.prog 27 [a.val, b.val] z fun r s' => K0 z s' ∧ r = mulF a b := by
  have hp : Hp (fun _ => False) z [] [] z := Hp.start _ wf _ (by simp)
  refine Cw.enterS Tryd.func27 rfl rfl ?_
  refine Sm.seqW ?_
  conv => whnf
  refine hp.var (cs := a.cells) (e := 4) rfl rfl ?_
  clear hp
  intro p2 s hp _
  conv => whnf
  refine hp.var (cs := b.cells) (e := 4) rfl rfl ?_
  clear hp
  intro p3 s hp _
  conv => whnf
  refine hp.alloc (cs := Dc.zero.cells) (e := 4) rfl rfl rfl rfl rfl ?_
  clear hp
  intro p4 s hp _
  conv => whnf
  refine Sm.live [2, 3, 4] ?_
  conv => whnf
  refine Sm.seq ?_
  refine Sm.seqW ?_
  conv => whnf
  refine hp.loadA (l := a.cells) (by repeat (first | exact Has.here | apply Has.there | (apply Has.swap; repeat (first | exact HasR.here | apply HasR.there)))) rfl (by rfl) rfl rfl ?_
  conv => whnf
  refine hp.call (rightDec_spec hp.wf a ha) ?_
  clear hp
  rintro _ s rfl hp _
  conv => whnf
  cases hr : a.right with
  | false =>
    repeat (first | (refine Br.yes (by first | with_reducible rfl | with_reducible exact beq_self_eq_true _ | rfl) ?_; conv => whnf) | (refine Br.no (by first | with_reducible rfl | with_reducible exact bne_self_eq_false _ | rfl) ?_; conv => whnf))
    refine Sm.ofW ?_
    conv => whnf
    repeat (first | (refine Br.yes (by first | with_reducible rfl | with_reducible exact beq_self_eq_true _ | rfl) ?_; conv => whnf) | (refine Br.no (by first | with_reducible rfl | with_reducible exact bne_self_eq_false _ | rfl) ?_; conv => whnf))
    refine hp.storeW (vs := Dc.zero.cells) rfl (by repeat (first | exact Rm.here | apply Rm.there)) (by first | exact C2_same _ _ _ _ | exact C4_same _ _ _ _ _ _ _ _ | exact Dc_same _ _ | rfl) rfl rfl rfl ?_
    clear hp
    intro s hp _
    conv => whnf
    refine hp.loadA (l := Dc.zero.cells) (by repeat (first | exact Has.here | apply Has.there | (apply Has.swap; repeat (first | exact HasR.here | apply HasR.there)))) rfl (by rfl) rfl rfl ?_
    conv => whnf
    exact ⟨hp.fr, by unfold mulF; rw [if_pos (.inl hr)]; rfl⟩
  | true =>
    repeat (first | (refine Br.yes (by first | with_reducible rfl | with_reducible exact beq_self_eq_true _ | rfl) ?_; conv => whnf) | (refine Br.no (by first | with_reducible rfl | with_reducible exact bne_self_eq_false _ | rfl) ?_; conv => whnf))
    refine hp.loadA (l := b.cells) (by repeat (first | exact Has.here | apply Has.there | (apply Has.swap; repeat (first | exact HasR.here | apply HasR.there)))) rfl (by rfl) rfl rfl ?_
    conv => whnf
    repeat (first | (refine Br.yes (by first | with_reducible rfl | with_reducible exact beq_self_eq_true _ | rfl) ?_; conv => whnf) | (refine Br.no (by first | with_reducible rfl | with_reducible exact bne_self_eq_false _ | rfl) ?_; conv => whnf))
    refine hp.call (rightDec_spec hp.wf b hb) ?_
    clear hp
    rintro _ s rfl hp _
    conv => whnf
    cases hrb : b.right with
    | false =>
      repeat (first | (refine Br.yes (by first | with_reducible rfl | with_reducible exact beq_self_eq_true _ | rfl) ?_; conv => whnf) | (refine Br.no (by first | with_reducible rfl | with_reducible exact bne_self_eq_false _ | rfl) ?_; conv => whnf))
      refine Sm.ofW ?_
      conv => whnf
      repeat (first | (refine Br.yes (by first | with_reducible rfl | with_reducible exact beq_self_eq_true _ | rfl) ?_; conv => whnf) | (refine Br.no (by first | with_reducible rfl | with_reducible exact bne_self_eq_false _ | rfl) ?_; conv => whnf))
      refine hp.storeW (vs := Dc.zero.cells) rfl (by repeat (first | exact Rm.here | apply Rm.there)) (by first | exact C2_same _ _ _ _ | exact C4_same _ _ _ _ _ _ _ _ | exact Dc_same _ _ | rfl) rfl rfl rfl ?_
      clear hp
      intro s hp _
      conv => whnf
      refine hp.loadA (l := Dc.zero.cells) (by repeat (first | exact Has.here | apply Has.there | (apply Has.swap; repeat (first | exact HasR.here | apply HasR.there)))) rfl (by rfl) rfl rfl ?_
      conv => whnf
      exact ⟨hp.fr, by unfold mulF; rw [if_pos (.inr hrb)]; rfl⟩
    | true =>
      obtain ⟨a1, a2, a3⟩ := Dc.right_c hr
      obtain ⟨b1, b2, b3⟩ := Dc.right_c hrb
      repeat (first | (refine Br.yes (by first | with_reducible rfl | with_reducible exact beq_self_eq_true _ | rfl) ?_; conv => whnf) | (refine Br.no (by first | with_reducible rfl | with_reducible exact bne_self_eq_false _ | rfl) ?_; conv => whnf))
      refine Sm.ofW ?_
      conv => whnf
      repeat (first | (refine Br.yes (by first | with_reducible rfl | with_reducible exact beq_self_eq_true _ | rfl) ?_; conv => whnf) | (refine Br.no (by first | with_reducible rfl | with_reducible exact bne_self_eq_false _ | rfl) ?_; conv => whnf))
      have es : IntKind.i64.wrap (a.scale + b.scale) = a.scale + b.scale := wi64 (by omega) (by omega)
      have hfin : mulF a b = makeF (a.neg != b.neg) (a.c * b.c) (a.scale + b.scale) := by
        unfold mulF makeF
        rw [if_neg (by simp [hr, hrb])]
        by_cases hs : 9 < a.scale + b.scale
        · rw [if_pos hs, if_pos (.inr hs)]
        · rw [if_neg hs, if_neg (by omega)]
      refine Sm.seqW ?_
      conv => whnf
      refine ⟨[0, 1, 0, 4, 15, 0, 32, 96, 0, 256, 992, 2016, 0, 4096, 0, 16384, 61440, 131071, 262143, 262143, 1048575, 2097151], by decide +kernel, by decide +kernel, ?_⟩
      conv => whnf
      refine hp.load (v := .bool a.neg) (by repeat (first | exact Has.here | apply Has.there | (apply Has.swap; repeat (first | exact HasR.here | apply HasR.there)))) (by rfl) rfl rfl rfl ?_
      conv => whnf
      refine hp.load (v := .bool b.neg) (by repeat (first | exact Has.here | apply Has.there | (apply Has.swap; repeat (first | exact HasR.here | apply HasR.there)))) (by rfl) rfl rfl rfl ?_
      conv => whnf
      refine Om.of _ (rfl) ?_
      conv => whnf
      refine hp.loadA (l := C2 (a.c % w64) (a.c / w64)) (by repeat (first | exact Has.here | apply Has.there | (apply Has.swap; repeat (first | exact HasR.here | apply HasR.there)))) rfl (by rfl) rfl rfl ?_
      conv => whnf
      refine hp.rst.call (nat2_spec hp.rst.wf ha) ?_
      intro v5 s5 h5 g5 k5
      obtain ⟨κ5, l5, hnew, d5, e5, n5⟩ := hp.rst.nd k5 h5
      conv => whnf
      refine hp.dkN hnew k5 ?_
      clear hp hnew g5 h5 k5
      intro s hp
      conv => whnf
      refine hp.loadA (l := C2 (b.c % w64) (b.c / w64)) (by repeat (first | exact Has.here | apply Has.there | (apply Has.swap; repeat (first | exact HasR.here | apply HasR.there)))) rfl (by rfl) rfl rfl ?_
      conv => whnf
      refine hp.rst.call (nat2_spec hp.rst.wf hb) ?_
      intro v6 s6 h6 g6 k6
      obtain ⟨κ6, l6, hnew, d6, e6, n6⟩ := hp.rst.nd k6 h6
      conv => whnf
      refine hp.dkN hnew k6 ?_
      clear hp hnew g6 h6 k6
      intro s hp
      conv => whnf
      refine hp.rst.call (mulNat_spec hp.rst.wf (l := l5) (m := l6) (hp.rst.okF (slA κ5 v5 1 l5.length (natI l5)) (by simp)) (hp.rst.okF (slA κ6 v6 1 l6.length (natI l6)) (by simp)) d5.lt d6.lt (by omega) (by omega)) ?_
      intro v7 s7 h7 g7 k7
      obtain ⟨κ7, l7, hnew, d7, e7, n7⟩ := hp.rst.nd k7 h7
      conv => whnf
      refine hp.dkN hnew k7 ?_
      clear hp hnew g7 h7 k7
      intro s hp
      conv => whnf
      refine hp.load (v := .int .i64 a.scale) (by repeat (first | exact Has.here | apply Has.there | (apply Has.swap; repeat (first | exact HasR.here | apply HasR.there)))) (by rfl) rfl rfl rfl ?_
      conv => whnf
      refine hp.load (v := .int .i64 b.scale) (by repeat (first | exact Has.here | apply Has.there | (apply Has.swap; repeat (first | exact HasR.here | apply HasR.there)))) (by rfl) rfl rfl rfl ?_
      conv => whnf
      rw [es]
      refine hp.rst.call (make_spec hp.rst.wf (a.neg != b.neg) (l := l7) (hp.rst.okF (slA κ7 v7 1 l7.length (natI l7)) (by simp)) d7 (by omega) (a.scale + b.scale)) ?_
      rintro _ s1 rfl h1 k1
      conv => whnf
      refine hp.dkN h1 k1 ?_
      clear hp h1 k1
      intro s hp
      conv => whnf
      rw [e7, e5, e6, ← hfin]
      obtain ⟨r, re, hx⟩ := mulF_shape a b
      rw [hx]
      conv => whnf
      refine hp.rst.storeW (vs := r.cells) rfl (by repeat (first | exact Rm.here | apply Rm.there)) (by first | exact C2_same _ _ _ _ | exact C4_same _ _ _ _ _ _ _ _ | exact Dc_same _ _ | rfl) rfl rfl rfl ?_
      intro s1 h1 l1
      conv => whnf
      refine hp.dkW h1 l1 ?_
      clear hp h1 l1
      intro s hp
      conv => whnf
      refine Sm.ofW ?_
      conv => whnf
      refine hp.loadA (l := r.cells) (by repeat (first | exact Has.here | apply Has.there | (apply Has.swap; repeat (first | exact HasR.here | apply HasR.there)))) rfl (by rfl) rfl rfl ?_
      conv => whnf
      exact ⟨hp.fr, rfl⟩
theorem rscaled_spec {z : St} (wf : WF z) (a : Dc) (ha : a.c < w128) (T : Int) : Cw Tryd.prog 28 [a.val, .int .i64 T] z fun r s' => K0 z s' ∧ r = scaledF a T := by
  have hp : Hp (fun _ => False) z [] [] z := Hp.start _ wf _ (by simp)
  refine Cw.enterS Tryd.func28 rfl rfl ?_
  refine Sm.seqW ?_
  conv => whnf
  refine hp.var (cs := a.cells) (e := 4) rfl rfl ?_
  clear hp
  intro p2 s hp _
  conv => whnf
  refine hp.alloc (cs := Dc.zero.cells) (e := 4) rfl rfl rfl rfl rfl ?_
  clear hp
  intro p4 s hp _
  conv => whnf
  refine Sm.live [1, 2, 4] ?_
  conv => whnf
  refine Sm.seq ?_
  refine Sm.seqW ?_
  conv => whnf
  refine hp.loadA (l := a.cells) (by repeat (first | exact Has.here | apply Has.there | (apply Has.swap; repeat (first | exact HasR.here | apply HasR.there)))) rfl (by rfl) rfl rfl ?_
  conv => whnf
  refine hp.call (rightDec_spec hp.wf a ha) ?_
  clear hp
  rintro _ s rfl hp _
  conv => whnf
  cases hr : a.right with
  | false =>
    repeat (first | (refine Br.yes (by first | with_reducible rfl | with_reducible exact beq_self_eq_true _ | rfl) ?_; conv => whnf) | (refine Br.no (by first | with_reducible rfl | with_reducible exact bne_self_eq_false _ | rfl) ?_; conv => whnf))
    refine Sm.ofW ?_
    conv => whnf
    repeat (first | (refine Br.yes (by first | with_reducible rfl | with_reducible exact beq_self_eq_true _ | rfl) ?_; conv => whnf) | (refine Br.no (by first | with_reducible rfl | with_reducible exact bne_self_eq_false _ | rfl) ?_; conv => whnf))
    refine hp.storeW (vs := Dc.zero.cells) rfl (by repeat (first | exact Rm.here | apply Rm.there)) (by first | exact C2_same _ _ _ _ | exact C4_same _ _ _ _ _ _ _ _ | exact Dc_same _ _ | rfl) rfl rfl rfl ?_
    clear hp
    intro s hp _
    conv => whnf
    refine hp.loadA (l := Dc.zero.cells) (by repeat (first | exact Has.here | apply Has.there | (apply Has.swap; repeat (first | exact HasR.here | apply HasR.there)))) rfl (by rfl) rfl rfl ?_
    conv => whnf
    exact ⟨hp.fr, by unfold scaledF; rw [if_pos (.inl hr)]; rfl⟩
  | true =>
    obtain ⟨a1, a2, a3⟩ := Dc.right_c hr
    repeat (first | (refine Br.yes (by first | with_reducible rfl | with_reducible exact beq_self_eq_true _ | rfl) ?_; conv => whnf) | (refine Br.no (by first | with_reducible rfl | with_reducible exact bne_self_eq_false _ | rfl) ?_; conv => whnf))
    refine hp.load (v := .int .i64 a.scale) (by repeat (first | exact Has.here | apply Has.there | (apply Has.swap; repeat (first | exact HasR.here | apply HasR.there)))) (by rfl) rfl rfl rfl ?_
    conv => whnf
    by_cases q1 : T < a.scale
    · have q1' := decide_eq_true q1
      repeat (first | (refine Br.yes q1' ?_; conv => whnf) | (first | (refine Br.yes (by first | with_reducible rfl | with_reducible exact beq_self_eq_true _ | rfl) ?_; conv => whnf) | (refine Br.no (by first | with_reducible rfl | with_reducible exact bne_self_eq_false _ | rfl) ?_; conv => whnf)))
      refine Sm.ofW ?_
      conv => whnf
      repeat (first | (refine Br.yes q1' ?_; conv => whnf) | (first | (refine Br.yes (by first | with_reducible rfl | with_reducible exact beq_self_eq_true _ | rfl) ?_; conv => whnf) | (refine Br.no (by first | with_reducible rfl | with_reducible exact bne_self_eq_false _ | rfl) ?_; conv => whnf)))
      refine hp.storeW (vs := Dc.zero.cells) rfl (by repeat (first | exact Rm.here | apply Rm.there)) (by first | exact C2_same _ _ _ _ | exact C4_same _ _ _ _ _ _ _ _ | exact Dc_same _ _ | rfl) rfl rfl rfl ?_
      clear hp
      intro s hp _
      conv => whnf
      refine hp.loadA (l := Dc.zero.cells) (by repeat (first | exact Has.here | apply Has.there | (apply Has.swap; repeat (first | exact HasR.here | apply HasR.there)))) rfl (by rfl) rfl rfl ?_
      conv => whnf
      exact ⟨hp.fr, by unfold scaledF; rw [if_pos (.inr (.inl q1))]; rfl⟩
    have q1' := decide_eq_false q1
    by_cases q2 : 9 < T
    · have q2' : decide (T > 9) = true := decide_eq_true q2
      repeat (first | (refine Br.no q1' ?_; conv => whnf) | (refine Br.yes q2' ?_; conv => whnf) | (first | (refine Br.yes (by first | with_reducible rfl | with_reducible exact beq_self_eq_true _ | rfl) ?_; conv => whnf) | (refine Br.no (by first | with_reducible rfl | with_reducible exact bne_self_eq_false _ | rfl) ?_; conv => whnf)))
      refine Sm.ofW ?_
      conv => whnf
      repeat (first | (refine Br.no q1' ?_; conv => whnf) | (refine Br.yes q2' ?_; conv => whnf) | (first | (refine Br.yes (by first | with_reducible rfl | with_reducible exact beq_self_eq_true _ | rfl) ?_; conv => whnf) | (refine Br.no (by first | with_reducible rfl | with_reducible exact bne_self_eq_false _ | rfl) ?_; conv => whnf)))
      refine hp.storeW (vs := Dc.zero.cells) rfl (by repeat (first | exact Rm.here | apply Rm.there)) (by first | exact C2_same _ _ _ _ | exact C4_same _ _ _ _ _ _ _ _ | exact Dc_same _ _ | rfl) rfl rfl rfl ?_
      clear hp
      intro s hp _
      conv => whnf
      refine hp.loadA (l := Dc.zero.cells) (by repeat (first | exact Has.here | apply Has.there | (apply Has.swap; repeat (first | exact HasR.here | apply HasR.there)))) rfl (by rfl) rfl rfl ?_
      conv => whnf
      exact ⟨hp.fr, by unfold scaledF; rw [if_pos (.inr (.inr q2))]; rfl⟩
    have q2' : decide (T > 9) = false := decide_eq_false q2
    repeat (first | (refine Br.no q1' ?_; conv => whnf) | (refine Br.no q2' ?_; conv => whnf) | (first | (refine Br.yes (by first | with_reducible rfl | with_reducible exact beq_self_eq_true _ | rfl) ?_; conv => whnf) | (refine Br.no (by first | with_reducible rfl | with_reducible exact bne_self_eq_false _ | rfl) ?_; conv => whnf)))
    refine Sm.ofW ?_
    conv => whnf
    repeat (first | (refine Br.no q1' ?_; conv => whnf) | (refine Br.no q2' ?_; conv => whnf) | (first | (refine Br.yes (by first | with_reducible rfl | with_reducible exact beq_self_eq_true _ | rfl) ?_; conv => whnf) | (refine Br.no (by first | with_reducible rfl | with_reducible exact bne_self_eq_false _ | rfl) ?_; conv => whnf)))
    have hfin : scaledF a T = dmade a.neg (a.c * 10 ^ (T - a.scale).toNat) T := by unfold scaledF; rw [if_neg (by simp [hr]; omega)]
    refine Sm.seqW ?_
    conv => whnf
    refine ⟨[0, 1, 0, 0, 12, 0, 63, 127, 127, 511, 1023], by decide +kernel, by decide +kernel, ?_⟩
    conv => whnf
    refine hp.load (v := .bool a.neg) (by repeat (first | exact Has.here | apply Has.there | (apply Has.swap; repeat (first | exact HasR.here | apply HasR.there)))) (by rfl) rfl rfl rfl ?_
    conv => whnf
    refine hp.loadA (l := a.cells) (by repeat (first | exact Has.here | apply Has.there | (apply Has.swap; repeat (first | exact HasR.here | apply HasR.there)))) rfl (by rfl) rfl rfl ?_
    conv => whnf
    refine hp.rst.call (rdigits_spec hp.rst.wf a ha hr (S := T) (by omega) (by omega)) ?_
    intro v7 s7 h7 g7 k7
    obtain ⟨κ7, l7, hnew, d7, e7, n7⟩ := hp.rst.nd k7 h7
    conv => whnf
    refine hp.dkN hnew k7 ?_
    clear hp hnew g7 h7 k7
    intro s hp
    conv => whnf
    refine hp.rst.call (make_spec hp.rst.wf a.neg (l := l7) (hp.rst.okF (slA κ7 v7 1 l7.length (natI l7)) (by simp)) d7 (by omega) T) ?_
    rintro _ s1 rfl h1 k1
    conv => whnf
    refine hp.dkN h1 k1 ?_
    clear hp h1 k1
    intro s hp
    conv => whnf
    rw [makeF_ok (by omega) (by omega), e7, ← hfin]
    obtain ⟨r, re, hx⟩ := scaledF_shape a T
    rw [hx]
    conv => whnf
    refine hp.rst.storeW (vs := r.cells) rfl (by repeat (first | exact Rm.here | apply Rm.there)) (by first | exact C2_same _ _ _ _ | exact C4_same _ _ _ _ _ _ _ _ | exact Dc_same _ _ | rfl) rfl rfl rfl ?_
    intro s1 h1 l1
    conv => whnf
    refine hp.dkW h1 l1 ?_
    clear hp h1 l1
    intro s hp
    conv => whnf
    refine Sm.ofW ?_
    conv => whnf
    refine hp.loadA (l := r.cells) (by repeat (first | exact Has.here | apply Has.there | (apply Has.swap; repeat (first | exact HasR.here | apply HasR.there)))) rfl (by rfl) rfl rfl ?_
    conv => whnf
    exact ⟨hp.fr, rfl⟩
end Go.Ev
end
