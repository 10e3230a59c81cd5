/- What ChainTurns says. No condition. -/
import Derived.Test.YtjkbkofgdikmcaaC14
noncomputable section
namespace Go.Ev
open Go.Proofs
set_option linter.unusedVariables false
set_option maxRecDepth 100000

theorem wrapR (n : Int) : inR (IntKind.i64.wrap n) := by rw [wrap_i64i]; unfold inR; split <;> omega
/-- The records that were added to a label's chain. -/
def recsOf (l : List Rw) (b : Lb) : List Rc := (l.filter fun x => decide (lab x.l = b)).map Rw.r
theorem recsOf_snoc (l : List Rw) (x : Rw) (b : Lb) : recsOf (l ++ [x]) b = if b = lab x.l then recsOf l b ++ [x.r] else recsOf l b := by
  unfold recsOf
  by_cases h : b = lab x.l
  · rw [if_pos h]; simp [List.filter_append, h]
  · rw [if_neg h]
    have : ¬ (lab x.l = b) := fun e => h e.symm
    simp [List.filter_append, this]
theorem recsOf_len (l : List Rw) (b : Lb) : (recsOf l b).length ≤ l.length := by
  unfold recsOf; simp; exact List.length_filter_le _ _
theorem recsOf_ok {l : List Rw} (ok : ∀ x ∈ l, x.ok) (b : Lb) : ∀ r ∈ recsOf l b, r.ok := by
  intro r hr
  unfold recsOf at hr
  obtain ⟨x, hx, rfl⟩ := List.mem_map.1 hr
  exact (ok x (List.mem_filter.1 hx).1).r
theorem rcCells_set (l : List Rc) (k : Nat) (hk : k < l.length) (t : ByteArray) : (rcCells l).set (0 + k * 4 + 3) (.string t) = rcCells (l.set k { l[k] with text := t }) := by
  rw [Nat.zero_add]
  induction k generalizing l with
  | zero =>
    cases l with
    | nil => simp at hk
    | cons r l => rfl
  | succ k ih =>
    cases l with
    | nil => simp at hk
    | cons r l =>
      have hk' : k < l.length := by simpa using hk
      show (r.cells ++ rcCells l).set _ _ = r.cells ++ rcCells (l.set k _)
      have e1 : r.cells.length = 4 := rfl
      rw [List.set_append_right _ _ (by omega), e1]
      have := ih l hk'
      rw [show (k + 1) * 4 + 3 - 4 = k * 4 + 3 by omega, this]
      rfl
theorem byte_set (l : List UInt8) (j n : Nat) (hn : n < 256) : (byteVals l).set (0 + j * 1) (.int .u8 (n : Int)) = byteVals (l.set j (UInt8.ofNat n)) := by
  rw [Nat.zero_add, Nat.mul_one, byteVals, byteVals, List.map_set]
  congr 2
  rw [toNat_ofNat hn]
theorem turns_walk {s0 : St} (wf : WF s0) {v : Value} {l : List Rw} (hv : Sl s0 none v 5 l.length (rwCells l)) (ok : ∀ x ∈ l, x.ok) (hl : l.length ≤ 140737488351232) {at_ wh by_ : Int} (hat : inR at_) (hwh : inR wh) (hby : 0 ≤ by_ ∧ by_ < 256) :
    Cw Try.prog 10 [v, .int .i64 at_, .int .i64 wh, .int .u8 by_] s0 fun r _ => r = .bool true := by
  obtain ⟨a, cp, rfl⟩ := hv.shape
  have hp : Hp (fun _ => False) s0 [slA none (.slice a l.length cp) 5 l.length (rwCells l)] [] s0 := Hp.start _ wf _ (by simp; exact hv)
  refine Cw.enterS Try.func10 rfl rfl ?_
  refine Sm.seqW ?_
  conv => whnf
  refine Sm.seqW ?_
  conv => whnf
  refine hp.newB ?_
  clear hp
  intro b0 kb mb s hp _
  conv => whnf
  refine Sm.live [0, 1, 2, 3, 9] ?_
  conv => whnf
  refine Sm.seq ?_
  refine Sm.seqW ?_
  conv => whnf
  refine (cknown_spec hp.wf).mono ?_
  rintro _ s' ⟨rfl, k1⟩
  replace hp := hp.k0 k1
  clear k1
  conv => whnf
  repeat (first | (refine Br.yes (by first | with_reducible rfl | rfl) ?_; conv => whnf) | (refine Br.no (by first | with_reducible rfl | rfl) ?_; conv => whnf))
  refine Om.of (.bool false) rfl ?_
  conv => whnf
  repeat (first | (refine Br.yes (by first | with_reducible rfl | rfl) ?_; conv => whnf) | (refine Br.no (by first | with_reducible rfl | rfl) ?_; conv => whnf))
  refine Sm.ofW ?_
  conv => whnf
  repeat (first | (refine Br.yes (by first | with_reducible rfl | rfl) ?_; conv => whnf) | (refine Br.no (by first | with_reducible rfl | rfl) ?_; conv => whnf))
  refine Sm.live [0, 1, 2, 3, 9] ?_
  conv => whnf
  refine Sm.seqW ?_
  conv => whnf
  refine hp.mkMap rfl ?_
  clear hp
  intro cm s hp _
  conv => whnf
  refine Sm.live [0, 1, 2, 3, 9, 10] ?_
  conv => whnf
  refine Sm.seq ?_
  refine Sm.seqW ?_
  conv => whnf
  refine Sm.block ?_
  refine Sm.loop ?_
  refine Lp.ofS (α := Nat × List Ent × List (Lb × Int)) (fun x => [(0, .slice a l.length cp), (1, .int .i64 at_), (2, .int .i64 wh), (3, .int .u8 by_), (9, .pointer (some ⟨b0, 0, none⟩)), (10, .map (some cm)), (27, .slice a l.length cp), (28, .int .i64 (l.length : Int)), (29, .int .i64 (x.1 : Int))])
    (fun x s' => x.1 ≤ l.length ∧ Hp (fun _ => False) s0 [slA none (.slice a l.length cp) 5 l.length (rwCells l)] [bookA (.pointer (some ⟨b0, 0, none⟩)) kb mb x.2.1, mapA cm (x.2.2.map cv)] s' ∧
      (∀ b, chOf x.2.1 b = chN (recsOf (l.take x.1) b)) ∧ (∀ b, cntOf x.2.2 b = ((recsOf (l.take x.1) b).length : Int))) (fun x => l.length - x.1) ?_ (0, [], [])
    (subK_ok (by refine ⟨rfl, rfl, rfl, rfl, rfl, rfl, rfl, rfl, rfl, trivial⟩)) ⟨Nat.zero_le _, hp.pik (by repeat (first | exact Pik.nil | exact Pik.refl _ | exact Rm.here | apply Rm.there | apply Pik.cons)), fun _ => rfl, fun _ => rfl⟩
  · clear hp
    rintro ⟨i, E, M⟩ s ⟨hi, hp, hE, hM⟩
    simp only at hi hp hE hM
    refine Sm.seqW ?_
    conv => whnf
    refine Sm.seqW ?_
    conv => whnf
    refine Br.mk (fun hc => ?_) (fun hc => ?_)
    · have hc : i < l.length := by have := of_decide_eq_true hc; omega
      have hok := ok l[i] (List.getElem_mem hc)
      conv => whnf
      refine Sm.seq (Sm.block ?_)
      refine Sm.seqW ?_
      conv => whnf
      obtain ⟨p, e1, e2⟩ := index_rw (hp.slR .here) .i64 hc
      refine Om.of _ e1 ?_
      conv => whnf
      refine Om.of _ e2 ?_
      conv => whnf
      refine hp.alloc (cs := [.int .i64 0, .int .i64 0, .int .i64 0, .int .i64 0, .string ⟨#[]⟩]) (e := 5) rfl rfl rfl rfl rfl ?_
      clear hp e1 e2
      intro b5 s hp _
      conv => whnf
      refine hp.storeW (vs := l[i].cells) rfl (by repeat (first | exact Rm.here | apply Rm.there)) (by rfl) rfl rfl rfl ?_
      clear hp
      intro s hp _
      conv => whnf
      refine Sm.live [0, 1, 2, 3, 9, 10, 12, 27, 28, 29] ?_
      conv => whnf
      -- y
      refine Sm.seqW ?_
      conv => whnf
      (refine hp.load (by repeat (first | exact Has.here | apply Has.there | (apply Has.swap; repeat (first | exact HasR.here | apply HasR.there)))) (by rfl) rfl rfl rfl ?_; conv => whnf)
      refine hp.call (label_spec hp.wf (wrapR _)) ?_
      clear hp
      rintro _ s rfl hp _
      conv => whnf
      generalize hN : lab (IntKind.i64.wrap (l[i].l + 1)) = N
      refine hp.ofB (by repeat (first | exact Has.here | apply Has.there | (apply Has.swap; repeat (first | exact HasR.here | apply HasR.there)))) _ ?_
      clear hp
      intro κy wy s hp _
      obtain ⟨ay, cy, rfl⟩ := (hp.slF (by repeat (first | exact Rm.here | apply Rm.there))).shape
      conv => whnf
      refine hp.alloc (cs := chCells Ch.zero (.slice none 0 0)) (e := 4) rfl rfl rfl rfl rfl ?_
      clear hp
      intro b6 s hp _
      conv => whnf
      refine hp.storeW (vs := chCells (chOf E N) (.slice ay (chOf E N).last.length cy)) rfl (by repeat (first | exact Rm.here | apply Rm.there)) (by rfl) rfl rfl rfl ?_
      clear hp
      intro s hp _
      conv => whnf
      have book := hp.book (E := E) (kb := kb) (mb := mb) (p := .pointer (some ⟨b0, 0, none⟩)) (by repeat (first | exact Has.here | apply Has.there | (apply Has.swap; repeat (first | exact HasR.here | apply HasR.there))))
      obtain ⟨κY, -, -, hY8, -⟩ := book.sl N
      clear book
      refine Sm.live [0, 1, 2, 3, 9, 10, 12, 13, 27, 28, 29] ?_
      conv => whnf
      -- added
      refine Sm.seqC (fun e L' s' => e = .normal ∧ (∃ E', Hp (fun _ => False) s0 [slA none (.slice a l.length cp) 5 l.length (rwCells l)]
          [bookA (.pointer (some ⟨b0, 0, none⟩)) kb mb E', blkA b6 b6 (chCells (chOf E N) (.slice ay (chOf E N).last.length cy)) 4, onA κy (.slice ay (chOf E N).last.length cy) 4 (chOf E N).last.length (rcCells (chOf E N).last), blkA b5 b5 l[i].cells 5, mapA cm (M.map cv)] s' ∧
          ∀ l', chOf E' l' = if l' = lab l[i].l then (chOf E (lab l[i].l)).add l[i].r else chOf E l') ∧
        Sub [(0, .slice a l.length cp), (1, .int .i64 at_), (2, .int .i64 wh), (3, .int .u8 by_), (9, .pointer (some ⟨b0, 0, none⟩)), (10, .map (some cm)), (12, .pointer (some ⟨b5, 0, none⟩)), (13, .pointer (some ⟨b6, 0, none⟩)), (27, .slice a l.length cp), (28, .int .i64 (l.length : Int)), (29, .int .i64 (i : Int))] L') ?_ ?_
      · conv => whnf
        refine ⟨[0, 0, 2, 6, 0, 30, 63], by decide +kernel, by decide +kernel, ?_⟩
        conv => whnf
        (refine hp.load (by repeat (first | exact Has.here | apply Has.there | (apply Has.swap; repeat (first | exact HasR.here | apply HasR.there)))) (by rfl) rfl rfl rfl ?_; conv => whnf)
        refine hp.rst.call (label_spec hp.rst.wf hok.l) ?_
        rintro _ s1 rfl h1 k1
        conv => whnf
        refine hp.dkN h1 k1 ?_
        clear hp h1 k1
        intro s hp
        conv => whnf
        refine hp.loadA (l := l[i].cells) (by repeat (first | exact Has.here | apply Has.there | (apply Has.swap; repeat (first | exact HasR.here | apply HasR.there)))) rfl (by rfl) rfl rfl ?_
        conv => whnf
        refine hp.rst.call (record_spec hp.rst.wf l[i]) ?_
        rintro _ s1 rfl h1 k1
        conv => whnf
        refine hp.dkN h1 k1 ?_
        clear hp h1 k1
        intro s hp
        conv => whnf
        refine hp.rst.addB (by repeat (first | exact Rm.here | apply Rm.there)) _ hok.r ?_
        intro v1 E' s1 h1 hE'
        conv => whnf
        refine hp.dkA h1 ?_ ?_
        all_goals
          clear hp h1
          intro s hp
          conv => whnf
          exact ⟨rfl, ⟨E', hp.pik (by repeat (first | exact Pik.nil | exact Pik.refl _ | exact Rm.here | apply Rm.there | apply Pik.cons)), hE'⟩, subK_ok (by refine ⟨rfl, rfl, rfl, rfl, rfl, rfl, rfl, rfl, rfl, rfl, rfl, trivial⟩)⟩
      clear hp
      rintro e L' s ⟨rfl, ⟨E', hp, hE'⟩, hs⟩
      refine Sm.weak _ hs ?_
      clear hs
      -- z
      refine Sm.seqW ?_
      conv => whnf
      (refine hp.load (by repeat (first | exact Has.here | apply Has.there | (apply Has.swap; repeat (first | exact HasR.here | apply HasR.there)))) (by rfl) rfl rfl rfl ?_; conv => whnf)
      refine hp.call (label_spec hp.wf (wrapR _)) ?_
      clear hp
      rintro _ s rfl hp _
      conv => whnf
      rw [hN]
      refine hp.ofB (by repeat (first | exact Has.here | apply Has.there | (apply Has.swap; repeat (first | exact HasR.here | apply HasR.there)))) _ ?_
      clear hp
      intro κz wz s hp _
      obtain ⟨az, cz, rfl⟩ := (hp.slF (by repeat (first | exact Rm.here | apply Rm.there))).shape
      conv => whnf
      refine hp.alloc (cs := chCells Ch.zero (.slice none 0 0)) (e := 4) rfl rfl rfl rfl rfl ?_
      clear hp
      intro b7 s hp _
      conv => whnf
      refine hp.storeW (vs := chCells (chOf E' N) (.slice az (chOf E' N).last.length cz)) rfl (by repeat (first | exact Rm.here | apply Rm.there)) (by rfl) rfl rfl rfl ?_
      clear hp
      intro s hp _
      conv => whnf
      have book := hp.book (E := E') (kb := kb) (mb := mb) (p := .pointer (some ⟨b0, 0, none⟩)) (by repeat (first | exact Has.here | apply Has.there | (apply Has.swap; repeat (first | exact HasR.here | apply HasR.there))))
      obtain ⟨κZ, -, -, hZ8, -⟩ := book.sl N
      clear book
      refine Sm.live [0, 1, 2, 3, 9, 10, 12, 13, 14, 27, 28, 29] ?_
      conv => whnf
      refine Sm.seq ?_
      refine Sm.seqC (fun e L' s' => e = .normal ∧ Hp (fun _ => False) s0 [slA none (.slice a l.length cp) 5 l.length (rwCells l)]
          [bookA (.pointer (some ⟨b0, 0, none⟩)) kb mb E', blkA b5 b5 l[i].cells 5, mapA cm (M.map cv)] s' ∧
        Sub [(0, .slice a l.length cp), (1, .int .i64 at_), (2, .int .i64 wh), (3, .int .u8 by_), (9, .pointer (some ⟨b0, 0, none⟩)), (10, .map (some cm)), (12, .pointer (some ⟨b5, 0, none⟩)), (27, .slice a l.length cp), (28, .int .i64 (l.length : Int)), (29, .int .i64 (i : Int)), (67, .bool false)] L') ?_ ?_
      · conv => whnf
        refine ⟨[0, 1, 3, 7, 0, 16, 63, 127, 255, 511, 1023, 511, 4095, 8191, 16383, 32767], by decide +kernel, by decide +kernel, ?_⟩
        conv => whnf
        (refine hp.load (by repeat (first | exact Has.here | apply Has.there | (apply Has.swap; repeat (first | exact HasR.here | apply HasR.there)))) (by rfl) rfl rfl rfl ?_; conv => whnf)
        refine hp.rst.call (label_spec hp.rst.wf (wrapR _)) ?_
        rintro _ s1 rfl h1 k1
        conv => whnf
        refine hp.dkN h1 k1 ?_
        clear hp h1 k1
        intro s hp
        conv => whnf
        (refine hp.load (by repeat (first | exact Has.here | apply Has.there | (apply Has.swap; repeat (first | exact HasR.here | apply HasR.there)))) (by rfl) rfl rfl rfl ?_; conv => whnf)
        refine hp.rst.call (label_spec hp.rst.wf hok.l) ?_
        rintro _ s1 rfl h1 k1
        conv => whnf
        refine hp.dkN h1 k1 ?_
        clear hp h1 k1
        intro s hp
        conv => whnf
        rw [hN]
        refine Om.of _ (lab_ne _ _ _) ?_
        conv => whnf
        by_cases hlab : N = lab l[i].l
        · have hd : (!decide (N = lab l[i].l)) = false := by simp [hlab]
          rw [hd]
          repeat (first | (refine Br.yes (by first | with_reducible rfl | rfl) ?_; conv => whnf) | (refine Br.no (by first | with_reducible rfl | rfl) ?_; conv => whnf))
          exact ⟨rfl, hp.pik (by repeat (first | exact Pik.nil | exact Pik.refl _ | exact Rm.here | apply Rm.there | apply Pik.cons)), subK_ok (by refine ⟨rfl, rfl, rfl, rfl, rfl, rfl, rfl, rfl, rfl, rfl, rfl, trivial⟩)⟩
        · have hd : (!decide (N = lab l[i].l)) = true := by simp [hlab]
          rw [hd]
          have hsame : chOf E' N = chOf E N := by rw [hE', if_neg hlab]
          repeat (first | (refine Br.yes (by first | with_reducible rfl | rfl) ?_; conv => whnf) | (refine Br.no (by first | with_reducible rfl | rfl) ?_; conv => whnf))
          refine hp.loadA (l := chCells (chOf E N) (.slice ay (chOf E N).last.length cy)) (by repeat (first | exact Has.here | apply Has.there | (apply Has.swap; repeat (first | exact HasR.here | apply HasR.there)))) rfl (by rfl) rfl rfl ?_
          conv => whnf
          repeat (first | (refine Br.yes (by first | with_reducible rfl | rfl) ?_; conv => whnf) | (refine Br.no (by first | with_reducible rfl | rfl) ?_; conv => whnf))
          refine (convert_spec hp.rst.wf (hp.rst.slF (by repeat (first | exact Rm.here | apply Rm.there))) (by omega)).mono ?_
          rintro _ s1 ⟨k1, w1, rfl, o1⟩
          obtain ⟨κ1, h1⟩ := hp.rst.on k1 o1
          conv => whnf
          refine hp.dkN h1 k1 ?_
          clear hp h1 k1 o1
          intro s hp
          conv => whnf
          repeat (first | (refine Br.yes (by first | with_reducible rfl | rfl) ?_; conv => whnf) | (refine Br.no (by first | with_reducible rfl | rfl) ?_; conv => whnf))
          refine hp.loadA (l := chCells (chOf E' N) (.slice az (chOf E' N).last.length cz)) (by repeat (first | exact Has.here | apply Has.there | (apply Has.swap; repeat (first | exact HasR.here | apply HasR.there)))) rfl (by rfl) rfl rfl ?_
          conv => whnf
          repeat (first | (refine Br.yes (by first | with_reducible rfl | rfl) ?_; conv => whnf) | (refine Br.no (by first | with_reducible rfl | rfl) ?_; conv => whnf))
          refine (convert_spec hp.rst.wf (hp.rst.slF (by repeat (first | exact Rm.here | apply Rm.there))) (by omega)).mono ?_
          rintro _ s1 ⟨k1, w2, rfl, o1⟩
          obtain ⟨κ2, h1⟩ := hp.rst.on k1 o1
          conv => whnf
          refine hp.dkN h1 k1 ?_
          clear hp h1 k1 o1
          intro s hp
          conv => whnf
          repeat (first | (refine Br.yes (by first | with_reducible rfl | rfl) ?_; conv => whnf) | (refine Br.no (by first | with_reducible rfl | rfl) ?_; conv => whnf))
          refine hp.rst.call (same_spec hp.rst.wf (c := chOf E N) (d := chOf E' N) (v := w1) (w := w2) (hp.rst.slF (by repeat (first | exact Rm.here | apply Rm.there))) (hp.rst.slF (by repeat (first | exact Rm.here | apply Rm.there))) (by omega)) ?_
          rintro _ s1 ⟨bq, rfl, hbq⟩ h1 k1
          have hbq : bq = true := hbq.2 hsame.symm
          subst hbq
          conv => whnf
          refine hp.dkN h1 k1 ?_
          clear hp h1 k1
          intro s hp
          conv => whnf
          repeat (first | (refine Br.yes (by first | with_reducible rfl | rfl) ?_; conv => whnf) | (refine Br.no (by first | with_reducible rfl | rfl) ?_; conv => whnf))
          exact ⟨rfl, hp.pik (by repeat (first | exact Pik.nil | exact Pik.refl _ | exact Rm.here | apply Rm.there | apply Pik.cons)), subK_ok (by refine ⟨rfl, rfl, rfl, rfl, rfl, rfl, rfl, rfl, rfl, rfl, rfl, trivial⟩)⟩
      clear hp
      rintro e L' s ⟨rfl, hp, hs⟩
      refine Sm.weak _ hs ?_
      clear hs
      refine Sm.ofW ?_
      conv => whnf
      repeat (first | (refine Br.yes (by first | with_reducible rfl | rfl) ?_; conv => whnf) | (refine Br.no (by first | with_reducible rfl | rfl) ?_; conv => whnf))
      refine Sm.live [0, 1, 2, 3, 9, 10, 12, 27, 28, 29] ?_
      conv => whnf
      -- counted
      refine Sm.ofW ?_
      conv => whnf
      refine ⟨[0, 0, 2, 6, 0, 0, 32, 110, 254, 510, 1023], by decide +kernel, by decide +kernel, ?_⟩
      conv => whnf
      (refine hp.load (by repeat (first | exact Has.here | apply Has.there | (apply Has.swap; repeat (first | exact HasR.here | apply HasR.there)))) (by rfl) rfl rfl rfl ?_; conv => whnf)
      refine hp.rst.call (label_spec hp.rst.wf hok.l) ?_
      rintro _ s1 rfl h1 k1
      conv => whnf
      refine hp.dkN h1 k1 ?_
      clear hp h1 k1
      intro s hp
      conv => whnf
      (refine hp.load (by repeat (first | exact Has.here | apply Has.there | (apply Has.swap; repeat (first | exact HasR.here | apply HasR.there)))) (by rfl) rfl rfl rfl ?_; conv => whnf)
      refine hp.rst.call (label_spec hp.rst.wf hok.l) ?_
      rintro _ s1 rfl h1 k1
      conv => whnf
      refine hp.dkN h1 k1 ?_
      clear hp h1 k1
      intro s hp
      conv => whnf
      refine hp.rst.getC (by repeat (first | exact Has.here | apply Has.there | (apply Has.swap; repeat (first | exact HasR.here | apply HasR.there)))) _ ?_
      conv => whnf
      refine hp.dkS ?_
      conv => whnf
      have hcnt : IntKind.i64.wrap (cntOf M (lab l[i].l) + 1) = ((recsOf (l.take i) (lab l[i].l)).length : Int) + 1 := by
        have := recsOf_len (l.take i) (lab l[i].l)
        have h2 : (l.take i).length ≤ i := by simp; omega
        rw [hM, wi64 (by omega) (by omega)]
      refine hp.rst.setC (by repeat (first | exact Rm.here | apply Rm.there)) _ _ ?_
      intro s1 h1
      conv => whnf
      have fin : ∀ s2, Hp (fun _ => False) s0 [slA none (.slice a l.length cp) 5 l.length (rwCells l)] (mapA cm ((putC M (lab l[i].l) (IntKind.i64.wrap (cntOf M (lab l[i].l) + 1))).map cv) :: [bookA (.pointer (some ⟨b0, 0, none⟩)) kb mb E', blkA b5 b5 l[i].cells 5]) s2 → ∃ y : Nat × List Ent × List (Lb × Int), l.length - y.1 < l.length - i ∧ y.1 = i + 1 ∧ (y.1 ≤ l.length ∧ Hp (fun _ => False) s0 [slA none (.slice a l.length cp) 5 l.length (rwCells l)] [bookA (.pointer (some ⟨b0, 0, none⟩)) kb mb y.2.1, mapA cm (y.2.2.map cv)] s2 ∧
          (∀ b, chOf y.2.1 b = chN (recsOf (l.take y.1) b)) ∧ (∀ b, cntOf y.2.2 b = ((recsOf (l.take y.1) b).length : Int))) := by
        intro s2 h2
        refine ⟨(i + 1, E', putC M (lab l[i].l) (IntKind.i64.wrap (cntOf M (lab l[i].l) + 1))), by simp only; omega, rfl, hc, h2.pik (by repeat (first | exact Pik.nil | exact Pik.refl _ | exact Rm.here | apply Rm.there | apply Pik.cons)), fun b => ?_, fun b => ?_⟩
        · show chOf E' b = _
          rw [hE', List.take_succ_eq_append_getElem hc, recsOf_snoc]
          by_cases hb : b = lab l[i].l
          · rw [if_pos hb, if_pos hb, chN_snoc, ← hE, hb]
          · rw [if_neg hb, if_neg hb, hE]
        · show cntOf (putC M (lab l[i].l) (IntKind.i64.wrap (cntOf M (lab l[i].l) + 1))) b = _
          rw [cntOf_put, List.take_succ_eq_append_getElem hc, recsOf_snoc]
          by_cases hb : b = lab l[i].l
          · rw [if_pos hb, if_pos hb, hcnt, hb]; simp
          · rw [if_neg hb, if_neg hb, hM]
      have e6 : IntKind.i64.wrap ((i : Int) + 1) = ((i + 1 : Nat) : Int) := by rw [wi64 (by omega) (by omega)]; omega
      refine hp.dkA h1 ?_ ?_
      all_goals
        clear hp h1
        intro s hp
        conv => whnf
        refine Sm.ofW ?_
        conv => whnf
        obtain ⟨y, y1, y2, y3⟩ := fin s hp
        refine ⟨y, y1, subK_ok (by refine ⟨rfl, rfl, rfl, rfl, rfl, rfl, rfl, rfl, ?_, trivial⟩; rw [y2]; exact congrArg (fun x => some (Value.int .i64 x)) e6), y3⟩
    · have hc : i = l.length := by have := of_decide_eq_false hc; omega
      subst hc
      rw [List.take_of_length_le (Nat.le_refl _)] at hE hM
      conv => whnf
      refine Sm.live [0, 1, 2, 3, 9, 10] ?_
      conv => whnf
      refine Sm.seq ?_
      refine Sm.seqW ?_
      conv => whnf
      refine Sm.block ?_
      refine Sm.loop ?_
      refine Lp.ofS (α := Nat) (fun i => [(1, .int .i64 at_), (2, .int .i64 wh), (3, .int .u8 by_), (9, .pointer (some ⟨b0, 0, none⟩)), (10, .map (some cm)), (15, .int .i64 (i : Int))])
        (fun i s' => i ≤ 6 ∧ Hp (fun _ => False) s0 [slA none (.slice a l.length cp) 5 l.length (rwCells l)] [bookA (.pointer (some ⟨b0, 0, none⟩)) kb mb E, mapA cm (M.map cv)] s') (fun i => 6 - i) ?_ 0
        (subK_ok (by refine ⟨rfl, rfl, rfl, rfl, rfl, rfl, trivial⟩)) ⟨by omega, hp⟩
      clear hp
      rintro i s ⟨hi, hp⟩
      refine Sm.seq ?_
      refine Sm.seqW ?_
      conv => whnf
      refine Sm.ofW ?_
      conv => whnf
      refine Br.mk (fun hc => ?_) (fun hc => ?_)
      · have hc : i < 6 := by have := of_decide_eq_true hc; omega
        conv => whnf
        refine Sm.seq (Sm.block ?_)
        refine Sm.seqW ?_
        conv => whnf
        refine hp.call (label_spec hp.wf (n := (i : Int)) (by unfold inR; omega)) ?_
        clear hp
        rintro _ s rfl hp _
        conv => whnf
        generalize hB : lab (i : Int) = B
        have isC := chN_is (recsOf l B) (by have := recsOf_len l B; omega)
        rw [← hE] at isC
        have hright := chIs_right isC (by have := recsOf_len l B; omega)
        have hokB : ∀ r ∈ (chOf E B).last, r.ok := by
          rw [isC.last]
          intro r hr
          exact recsOf_ok ok B r (List.mem_of_mem_drop hr)
        have hlenB : (chOf E B).last.length = (recsOf l B).length - ((recsOf l B).length - 8) := by rw [isC.last]; simp
        refine hp.ofB (by repeat (first | exact Has.here | apply Has.there | (apply Has.swap; repeat (first | exact HasR.here | apply HasR.there)))) _ ?_
        clear hp
        intro κx wx s hp _
        obtain ⟨ax, cx, rfl⟩ := (hp.slF (by repeat (first | exact Rm.here | apply Rm.there))).shape
        conv => whnf
        refine hp.alloc (cs := chCells Ch.zero (.slice none 0 0)) (e := 4) rfl rfl rfl rfl rfl ?_
        clear hp
        intro b6 s hp _
        conv => whnf
        refine hp.storeW (vs := chCells (chOf E B) (.slice ax (chOf E B).last.length cx)) rfl (by repeat (first | exact Rm.here | apply Rm.there)) (by rfl) rfl rfl rfl ?_
        clear hp
        intro s hp _
        conv => whnf
        refine Sm.live [1, 2, 3, 9, 10, 15, 16] ?_
        conv => whnf
        refine Sm.seq ?_
        refine Sm.seqC (fun e L' s' => e = .normal ∧ Hp (fun _ => False) s0 [slA none (.slice a l.length cp) 5 l.length (rwCells l)]
          [blkA b6 b6 (chCells (chOf E B) (.slice ax (chOf E B).last.length cx)) 4, onA κx (.slice ax (chOf E B).last.length cx) 4 (chOf E B).last.length (rcCells (chOf E B).last), bookA (.pointer (some ⟨b0, 0, none⟩)) kb mb E, mapA cm (M.map cv)] s' ∧
          Sub [(1, .int .i64 at_), (2, .int .i64 wh), (3, .int .u8 by_), (9, .pointer (some ⟨b0, 0, none⟩)), (10, .map (some cm)), (15, .int .i64 (i : Int)), (16, .pointer (some ⟨b6, 0, none⟩)), (107, .bool false)] L') ?_ ?_
        · conv => whnf
          refine ⟨[0, 1, 3, 7, 15, 31, 15, 15, 143, 463, 1023, 2047, 4095, 8191, 16383, 32767, 8191, 73727, 204799, 524287, 1048575], by decide +kernel, by decide +kernel, ?_⟩
          conv => whnf
          refine hp.loadA (l := chCells (chOf E B) (.slice ax (chOf E B).last.length cx)) (by repeat (first | exact Has.here | apply Has.there | (apply Has.swap; repeat (first | exact HasR.here | apply HasR.there)))) rfl (by rfl) rfl rfl ?_
          conv => whnf
          refine hp.rst.call (right_spec (c := chOf E B) hp.rst.wf (hp.rst.slF (by repeat (first | exact Rm.here | apply Rm.there))) hokB (by omega)) ?_
          rintro _ s1 rfl h1 k1
          rw [hright]
          conv => whnf
          refine hp.dkN h1 k1 ?_
          clear hp h1 k1
          intro s hp
          conv => whnf
          repeat (first | (first | (refine Br.yes (by first | with_reducible rfl | rfl) ?_; conv => whnf) | (refine Br.no (by first | with_reducible rfl | rfl) ?_; conv => whnf)) | (refine hp.load (by repeat (first | exact Has.here | apply Has.there | (apply Has.swap; repeat (first | exact HasR.here | apply HasR.there)))) (by rfl) rfl rfl rfl ?_; conv => whnf))
          refine hp.rst.call (label_spec hp.rst.wf (n := (i : Int)) (by unfold inR; omega)) ?_
          rintro _ s1 rfl h1 k1
          conv => whnf
          refine hp.dkN h1 k1 ?_
          clear hp h1 k1
          intro s hp
          conv => whnf
          repeat (first | (first | (refine Br.yes (by first | with_reducible rfl | rfl) ?_; conv => whnf) | (refine Br.no (by first | with_reducible rfl | rfl) ?_; conv => whnf)) | (refine hp.load (by repeat (first | exact Has.here | apply Has.there | (apply Has.swap; repeat (first | exact HasR.here | apply HasR.there)))) (by rfl) rfl rfl rfl ?_; conv => whnf))
          refine hp.rst.getC (by repeat (first | exact Has.here | apply Has.there | (apply Has.swap; repeat (first | exact HasR.here | apply HasR.there)))) _ ?_
          conv => whnf
          refine hp.dkS ?_
          conv => whnf
          have f1 : ((chOf E B).count != cntOf M (lab (i : Int))) = false := by rw [hB, hM, isC.count]; simp
          repeat (first | (refine Br.no f1 ?_; conv => whnf) | (refine Br.yes rfl ?_; conv => whnf) | (refine Br.no rfl ?_; conv => whnf))
          (refine hp.load (by repeat (first | exact Has.here | apply Has.there | (apply Has.swap; repeat (first | exact HasR.here | apply HasR.there)))) (by rfl) rfl rfl rfl ?_; conv => whnf)
          repeat (first | (refine Br.no f1 ?_; conv => whnf) | (refine Br.yes rfl ?_; conv => whnf) | (refine Br.no rfl ?_; conv => whnf))
          (refine hp.load (by repeat (first | exact Has.here | apply Has.there | (apply Has.swap; repeat (first | exact HasR.here | apply HasR.there)))) (by rfl) rfl rfl rfl ?_; conv => whnf)
          have f2 : (((chOf E B).last.length : Int) != (if 8 < (chOf E B).count then 8 else (chOf E B).count)) = false := by
            rw [isC.count, hlenB]; simp; split <;> omega
          repeat (first | (refine Br.no f1 ?_; conv => whnf) | (refine Br.yes rfl ?_; conv => whnf) | (refine Br.no rfl ?_; conv => whnf))
          exact ⟨rfl, hp.pik (by repeat (first | exact Pik.nil | exact Pik.refl _ | exact Rm.here | apply Rm.there | apply Pik.cons)), subK_ok (by refine ⟨rfl, rfl, rfl, rfl, rfl, rfl, rfl, congrArg (fun b => some (Value.bool b)) f2, trivial⟩)⟩
        clear hp
        rintro e L' s ⟨rfl, hp, hs⟩
        refine Sm.weak _ hs ?_
        clear hs
        refine Sm.ofW ?_
        conv => whnf
        repeat (first | (refine Br.yes (by first | with_reducible rfl | rfl) ?_; conv => whnf) | (refine Br.no (by first | with_reducible rfl | rfl) ?_; conv => whnf))
        have e6 : IntKind.i64.wrap ((i : Int) + 1) = ((i + 1 : Nat) : Int) := by rw [wi64 (by omega) (by omega)]; omega
        refine Sm.live [1, 2, 3, 9, 10, 15, 16] ?_
        conv => whnf
        -- any, and a byte to turn?
        refine Sm.seq ?_
        refine Sm.seqW ?_
        conv => whnf
        (refine hp.load (by repeat (first | exact Has.here | apply Has.there | (apply Has.swap; repeat (first | exact HasR.here | apply HasR.there)))) (by rfl) rfl rfl rfl ?_; conv => whnf)
        refine Br.mk (fun hq => ?_) (fun hq => ?_)
        · conv => whnf
          repeat (first | (refine Br.yes hq ?_; conv => whnf))
          refine Sm.ofW ?_
          conv => whnf
          repeat (first | (refine Br.yes hq ?_; conv => whnf) | (refine Br.yes rfl ?_; conv => whnf))
          refine Sm.ofW ?_
          conv => whnf
          exact ⟨i + 1, by (show 6 - (i + 1) < 6 - i); omega, subK_ok (by refine ⟨rfl, rfl, rfl, rfl, rfl, congrArg (fun x => some (Value.int .i64 x)) e6, trivial⟩), hc, hp.pik (by repeat (first | exact Pik.nil | exact Pik.refl _ | exact Rm.here | apply Rm.there | apply Pik.cons))⟩
        have hn0 : (chOf E B).last.length ≠ 0 := by have := beq_eq_false_iff_ne.1 hq; omega
        conv => whnf
        repeat (first | (refine Br.no hq ?_; conv => whnf))
        refine Sm.ofW ?_
        conv => whnf
        refine Br.mk (fun hq2 => ?_) (fun hq2 => ?_)
        · conv => whnf
          refine Sm.ofW ?_
          conv => whnf
          exact ⟨i + 1, by (show 6 - (i + 1) < 6 - i); omega, subK_ok (by refine ⟨rfl, rfl, rfl, rfl, rfl, congrArg (fun x => some (Value.int .i64 x)) e6, trivial⟩), hc, hp.pik (by repeat (first | exact Pik.nil | exact Pik.refl _ | exact Rm.here | apply Rm.there | apply Pik.cons))⟩
        have hby0 : by_ ≠ 0 := by have := beq_eq_false_iff_ne.1 hq2; exact this
        conv => whnf
        clear hq hq2
        refine Sm.live [1, 2, 3, 9, 10, 15, 16] ?_
        conv => whnf
        obtain ⟨kx, bx, hsx, hlx, hp⟩ := hp.onBlk (G := _) (by repeat (first | exact Rm.here | apply Rm.there)) hn0
        injection hsx with hs1 hs2 hs3
        subst hs1 hs3
        refine Sm.seqW ?_
        conv => whnf
        (refine hp.load (by repeat (first | exact Has.here | apply Has.there | (apply Has.swap; repeat (first | exact HasR.here | apply HasR.there)))) (by rfl) rfl rfl rfl ?_; conv => whnf)
        refine (pick_spec s hat (by omega) (by omega)).mono ?_
        rintro _ _ ⟨rfl, rfl⟩
        obtain ⟨k, hk0, hk1⟩ : ∃ k : Nat, at_ % ((chOf E B).last.length : Int) = (k : Int) ∧ k < (chOf E B).last.length := by
          have h1 := Int.emod_nonneg at_ (show ((chOf E B).last.length : Int) ≠ 0 by omega)
          have h2 := Int.emod_lt_of_pos at_ (show 0 < ((chOf E B).last.length : Int) by omega)
          exact ⟨(at_ % ((chOf E B).last.length : Int)).toNat, by omega, by omega⟩
        rw [hk0]
        conv => whnf
        refine Sm.live [1, 2, 3, 9, 10, 15, 16, 17] ?_
        conv => whnf
        -- its text
        refine Sm.seqW ?_
        conv => whnf
        (refine hp.load (by repeat (first | exact Has.here | apply Has.there | (apply Has.swap; repeat (first | exact HasR.here | apply HasR.there)))) (by rfl) rfl rfl rfl ?_; conv => whnf)
        refine Om.of _ (idx_at R52 .i64 hk1) ?_
        conv => whnf
        refine hp.load (by repeat (first | exact Has.here | apply Has.there | (apply Has.swap; repeat (first | exact HasR.here | apply HasR.there)))) (v := .string (chOf E B).last[k].text) (by
          show (rcCells (chOf E B).last)[0 + k * 4 + 3]? = _
          rw [Nat.zero_add, rc_cell hk1 (by decide)]; rfl) rfl rfl rfl ?_
        conv => whnf
        generalize hT : (chOf E B).last[k].text = T
        refine hp.bytesOf Try.underlying9 Try.underlying22 Try.underlying5 T ?_
        clear hp
        intro bt s hp _
        conv => whnf
        refine Sm.live [1, 2, 3, 9, 10, 15, 16, 17, 18] ?_
        conv => whnf
        refine Sm.seq ?_
        refine Sm.seqW ?_
        conv => whnf
        refine Sm.ofW ?_
        conv => whnf
        refine Br.mk (fun hq => ?_) (fun hq => ?_)
        · conv => whnf
          have hp : Hp (fun _ => False) s0 [slA none (.slice a l.length cp) 5 l.length (rwCells l)] [bookA (.pointer (some ⟨b0, 0, none⟩)) kb mb E, mapA cm (M.map cv)] s := hp.pik (by repeat (first | exact Pik.nil | exact Pik.refl _ | exact Rm.here | apply Rm.there | apply Pik.cons))
          refine Sm.ofW ?_
          conv => whnf
          exact ⟨i + 1, by (show 6 - (i + 1) < 6 - i); omega, subK_ok (by refine ⟨rfl, rfl, rfl, rfl, rfl, congrArg (fun x => some (Value.int .i64 x)) e6, trivial⟩), hc, hp.pik (by repeat (first | exact Pik.nil | exact Pik.refl _ | exact Rm.here | apply Rm.there | apply Pik.cons))⟩
        have hT0 : (bs T).length ≠ 0 := by have := beq_eq_false_iff_ne.1 hq; omega
        clear hq
        conv => whnf
        -- turned
        refine Sm.seqW ?_
        conv => whnf
        have hTl : (bs T).length ≤ 140737488351232 := by
          have := (hokB _ (List.getElem_mem hk1)).text
          rw [hT] at this; exact this
        refine (pick_spec s hwh (by omega) (by omega)).mono ?_
        rintro _ _ ⟨rfl, rfl⟩
        obtain ⟨j, hj0, hj1⟩ : ∃ j : Nat, wh % ((bs T).length : Int) = (j : Int) ∧ j < (bs T).length := by
          have h1 := Int.emod_nonneg wh (show ((bs T).length : Int) ≠ 0 by omega)
          have h2 := Int.emod_lt_of_pos wh (show 0 < ((bs T).length : Int) by omega)
          exact ⟨(wh % ((bs T).length : Int)).toNat, by omega, by omega⟩
        rw [hj0]
        conv => whnf
        refine Om.of _ (idx_at B26 .i64 hj1) ?_
        conv => whnf
        refine hp.load (by repeat (first | exact Has.here | apply Has.there | (apply Has.swap; repeat (first | exact HasR.here | apply HasR.there)))) (v := .int .u8 ((bs T)[j].toNat : Int)) (by
          show (byteVals (bs T))[0 + j * 1]? = _
          rw [Nat.zero_add, Nat.mul_one]; simp [byteVals, hj1]) rfl rfl rfl ?_
        conv => whnf
        refine Om.of _ (idx_at B26 .i64 hj1) ?_
        conv => whnf
        obtain ⟨y, rfl⟩ : ∃ y : Nat, by_ = (y : Int) := ⟨by_.toNat, by omega⟩
        have hx1 : (bs T)[j].toNat < 256 := (bs T)[j].toNat_lt
        have hx2 : (bs T)[j].toNat ^^^ y < 256 := Nat.xor_lt_two_pow (n := 8) hx1 (by omega)
        rw [xor_u8 hx1 (by omega)]
        refine hp.store (by repeat (first | exact Rm.here | apply Rm.there)) (by rw [byteVals_length]; omega) rfl rfl rfl rfl ?_
        clear hp
        intro s hp _
        rw [byte_set _ _ _ hx2] at hp
        conv => whnf
        generalize hC : UInt8.ofNat ((bs T)[j].toNat ^^^ y) = C at hp ⊢
        have hCne : C ≠ (bs T)[j] := by
          intro h
          have h2 := congrArg UInt8.toNat h
          rw [← hC, toNat_ofNat hx2] at h2
          have h3 := congrArg (fun z => (bs T)[j].toNat ^^^ z) h2
          simp only [← Nat.xor_assoc, Nat.xor_self, Nat.zero_xor] at h3
          omega
        refine Sm.live [1, 2, 3, 9, 10, 15, 16, 17, 18] ?_
        conv => whnf
        -- laid back
        refine Sm.seqW ?_
        conv => whnf
        (refine hp.load (by repeat (first | exact Has.here | apply Has.there | (apply Has.swap; repeat (first | exact HasR.here | apply HasR.there)))) (by rfl) rfl rfl rfl ?_; conv => whnf)
        have q1 := hp.blkSl (n := ((bs T).set j C).length) (m := (by repeat (first | exact Has.here | apply Has.there | (apply Has.swap; repeat (first | exact HasR.here | apply HasR.there))) : Has (blkA bt bt (byteVals ((bs T).set j C)) 1) _ _)) (by rw [byteVals_length]; omega)
        have q2 := string_sl (src := 22) (dst := 9) Try.underlying22 Try.underlying9 Try.underlying5 q1
        rw [List.length_set] at q2
        refine Om.of _ q2 ?_
        conv => whnf
        refine Om.of _ (idx_at R52 .i64 hk1) ?_
        conv => whnf
        refine hp.store (off := 0 + k * 4 + 3) (by repeat (first | exact Rm.here | apply Rm.there)) (by rw [rcCells_length]; omega) rfl rfl rfl rfl ?_
        clear hp q1 q2
        intro s hp _
        rw [rcCells_set _ _ hk1] at hp
        conv => whnf
        refine Sm.live [1, 2, 3, 9, 10, 15, 16] ?_
        conv => whnf
        have hturn := right_turn hright hk1 (j := j) (b := C) (by rw [hT]; exact hj1) (by
          intro h
          apply hCne
          rw [h]
          congr 1
          rw [hT])
        have htt : turnT (chOf E B).last[k].text j C = ⟨((bs T).set j C).toArray⟩ := by rw [hT]; rfl
        have hokT : ∀ r ∈ (chOf E B).last.set k { (chOf E B).last[k] with text := ⟨((bs T).set j C).toArray⟩ }, r.ok := by
          intro r hr
          rcases List.mem_or_eq_of_mem_set hr with g | rfl
          · exact hokB r g
          · have o := hokB _ (List.getElem_mem hk1)
            exact ⟨o.who, o.verb, o.what, by show (bs ⟨((bs T).set j C).toArray⟩).length ≤ _; rw [bs_mk, List.length_set]; exact hTl⟩
        rw [htt] at hturn
        have hlen2 : ((chOf E B).last.set k { (chOf E B).last[k] with text := ⟨((bs T).set j C).toArray⟩ }).length = (chOf E B).last.length := List.length_set
        refine Sm.ofW ?_
        conv => whnf
        refine hp.loadA (l := chCells (chOf E B) (.slice (some ⟨bx, 0, none⟩) (chOf E B).last.length (chOf E B).last.length)) (by repeat (first | exact Has.here | apply Has.there | (apply Has.swap; repeat (first | exact HasR.here | apply HasR.there)))) rfl (by rfl) rfl rfl ?_
        conv => whnf
        have q3 := hp.blkSl (n := (chOf E B).last.length) (m := (by repeat (first | exact Has.here | apply Has.there | (apply Has.swap; repeat (first | exact HasR.here | apply HasR.there))) : Has (blkA kx bx (rcCells ((chOf E B).last.set k { (chOf E B).last[k] with text := ⟨((bs T).set j C).toArray⟩ })) 4) _ _)) (by rw [rcCells_length, hlen2])
        rw [← hlen2] at q3
        have hR := right_spec (c := { chOf E B with last := (chOf E B).last.set k { (chOf E B).last[k] with text := ⟨((bs T).set j C).toArray⟩ } }) hp.wf q3 hokT (by show List.length _ ≤ _; rw [hlen2]; omega)
        rw [hturn, hlen2] at hR
        refine hp.call hR ?_
        clear hp hR q3
        rintro _ s rfl hp _
        conv => whnf
        repeat (first | (refine Br.yes (by first | with_reducible rfl | rfl) ?_; conv => whnf) | (refine Br.no (by first | with_reducible rfl | rfl) ?_; conv => whnf))
        refine hp.call (label_spec hp.wf (n := (i : Int)) (by unfold inR; omega)) ?_
        clear hp
        rintro _ s rfl hp _
        conv => whnf
        rw [hB]
        repeat (first | (refine Br.yes (by first | with_reducible rfl | rfl) ?_; conv => whnf) | (refine Br.no (by first | with_reducible rfl | rfl) ?_; conv => whnf))
        refine hp.ofB (by repeat (first | exact Has.here | apply Has.there | (apply Has.swap; repeat (first | exact HasR.here | apply HasR.there)))) _ ?_
        clear hp
        intro κz wz s hp _
        conv => whnf
        repeat (first | (refine Br.yes (by first | with_reducible rfl | rfl) ?_; conv => whnf) | (refine Br.no (by first | with_reducible rfl | rfl) ?_; conv => whnf))
        refine hp.call (right_spec (c := chOf E B) hp.wf (hp.slF (by repeat (first | exact Rm.here | apply Rm.there))) hokB (by omega)) ?_
        clear hp
        rintro _ s rfl hp _
        rw [hright]
        conv => whnf
        repeat (first | (refine Br.yes (by first | with_reducible rfl | rfl) ?_; conv => whnf) | (refine Br.no (by first | with_reducible rfl | rfl) ?_; conv => whnf))
        have hp : Hp (fun _ => False) s0 [slA none (.slice a l.length cp) 5 l.length (rwCells l)] [bookA (.pointer (some ⟨b0, 0, none⟩)) kb mb E, mapA cm (M.map cv)] s := hp.pik (by repeat (first | exact Pik.nil | exact Pik.refl _ | exact Rm.here | apply Rm.there | apply Pik.cons))
        refine Sm.ofW ?_
        conv => whnf
        exact ⟨i + 1, by (show 6 - (i + 1) < 6 - i); omega, subK_ok (by refine ⟨rfl, rfl, rfl, rfl, rfl, congrArg (fun x => some (Value.int .i64 x)) e6, trivial⟩), hc, hp⟩
      · conv => whnf
        refine Sm.ofW ?_
        conv => whnf
        exact ⟨rfl⟩
end Go.Ev
