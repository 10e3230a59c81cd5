/- Several texts in one: what the law's text leans on, one behind the other. No condition but those that each theorem names. -/
import Derived.Test.YtjkbkofgdikmcaaGChainTells1
/- The document's chains by labels: Add. No condition. -/
noncomputable section
namespace Go.Ev
open Go.Proofs
set_option linter.unusedVariables false
set_option maxRecDepth 100000

theorem add_len8 {c : Ch} {r : Rc} (hc : c.last.length ≤ 8 ∧ ∀ q ∈ c.last, q.ok) (ok : r.ok) : (c.add r).last.length ≤ 8 ∧ ∀ q ∈ (c.add r).last, q.ok := by
  have hall : ∀ q ∈ c.last ++ [r], q.ok := fun q hq => by
    rcases List.mem_append.1 hq with g | g
    · exact hc.2 _ g
    · rw [List.mem_singleton] at g; rw [g]; exact ok
  have := hc.1
  unfold Ch.add
  by_cases hq : 8 < c.last.length + 1
  · rw [if_pos hq]
    exact ⟨by simp; omega, fun q hq => hall q (List.mem_of_mem_drop hq)⟩
  · rw [if_neg hq]
    exact ⟨by simp; omega, hall⟩
/-- What Add leaves. -/
structure DAdd (z s' : St) (p : Nat) (κL κC : Option Nat) (K : List Nat) (ls : List Lb) (es : List (Ch × Value)) (l : Lb) (r : Rc) : Prop where
  fr : Kp (docFoot p κL κC K) z s'
  ex : ∃ κL' κC' K' ls' es', (∀ j, docFoot p κL' κC' K' j → docFoot p κL κC K j ∨ z.next ≤ j) ∧ Doc s' p κL' κC' K' ls' es' ∧ (ls' = if l ∈ ls then ls else ls ++ [l]) ∧ ∀ l', (docOf ls' es' l').1 = if l' = l then (docOf ls es l).1.add r else (docOf ls es l').1
theorem DAdd.of {z s' : St} {R : List At} {p : Nat} {κL κC κL' κC' : Option Nat} {K K' : List Nat} {ls ls' : List Lb} {es es' : List (Ch × Value)} {l : Lb} {r : Rc} {vL vC : Value}
    (hp : Hp (docFoot p κL κC K) z R [blkA p p [vL, vC] 2, onA κL' vL 2 ls'.length (lbCells ls'), onA κC' vC 4 es'.length (chC es'), chsA K' es'] s') (hl : ls'.length = es'.length)
    (h1 : ls' = if l ∈ ls then ls else ls ++ [l]) (h2 : ∀ l', (docOf ls' es' l').1 = if l' = l then (docOf ls es l).1.add r else (docOf ls es l').1) : DAdd z s' p κL κC K ls es l r := by
  refine ⟨hp.fr, κL', κC', K', ls', es', fun j hj => ?_, Doc.shut hp hl, h1, h2⟩
  rcases hj with rfl | hj | hj | hj
  · exact hp.own (blkA j j [vL, vC] 2) (by simp) j rfl
  · exact hp.own (onA κL' vL 2 ls'.length (lbCells ls')) (by simp) j hj
  · exact hp.own (onA κC' vC 4 es'.length (chC es')) (by simp) j hj
  · exact hp.own (chsA K' es') (by simp) j hj
theorem dadd_spec {z : St} (wf : WF z) {p : Nat} {κL κC : Option Nat} {K : List Nat} {ls : List Lb} {es : List (Ch × Value)} (h : Doc z p κL κC K ls es) (hsm : ls.length ≤ 1000) (l : Lb) {r : Rc} (okr : r.ok) :
    Cw Try.prog 36 [.pointer (some ⟨p, 0, none⟩), l.val, r.val] z fun v s' => DAdd z s' p κL κC K ls es l r := by
  obtain ⟨vL, vC, hp⟩ := h.open wf
  have hlen := h.len
  obtain ⟨aL, cL, rfl⟩ := (hp.slF (κ := κL) (v := vL) (n := ls.length) (by repeat (first | exact Rm.here | apply Rm.there))).shape
  obtain ⟨aC, cC, rfl⟩ := (hp.slF (κ := κC) (v := vC) (n := es.length) (by repeat (first | exact Rm.here | apply Rm.there))).shape
  refine Cw.enterS Try.func36 rfl rfl ?_
  refine Sm.seqW ?_
  conv => whnf
  refine hp.var (cs := l.cells) (e := 2) rfl rfl ?_
  clear hp
  intro p4 s hp _
  conv => whnf
  refine hp.var (cs := r.cells) (e := 4) rfl rfl ?_
  clear hp
  intro p5 s hp _
  conv => whnf
  refine Sm.live [0, 4, 5] ?_
  conv => whnf
  refine Sm.seq ?_
  refine Sm.seqW ?_
  conv => whnf
  refine Sm.live [0, 4, 5, 6] ?_
  conv => whnf
  refine Sm.block ?_
  refine Sm.loop ?_
  refine Lp.ofS (α := Nat) (fun i => [(0, .pointer (some ⟨p, 0, none⟩)), (4, .pointer (some ⟨p4, 0, none⟩)), (5, .pointer (some ⟨p5, 0, none⟩)), (6, .int .i64 (i : Int))])
    (fun i s' => i ≤ ls.length ∧ (∀ j, (hj : j < ls.length) → j < i → ls[j] ≠ l) ∧ Hp (docFoot p κL κC K) z [] [blkA p5 p5 r.cells 4, blkA p4 p4 l.cells 2, blkA p p [.slice aL ls.length cL, .slice aC es.length cC] 2, onA κL (.slice aL ls.length cL) 2 ls.length (lbCells ls), onA κC (.slice aC es.length cC) 4 es.length (chC es), chsA K es] s') (fun i => ls.length - i) ?_ 0 (subK_ok (by refine ⟨rfl, rfl, rfl, rfl, trivial⟩)) ⟨Nat.zero_le _, fun j _ hj => by omega, hp.pik (by repeat (first | exact Pik.nil | exact Pik.refl _ | exact Rm.here | apply Rm.there | apply Pik.cons | apply Pik.skip))⟩
  clear hp
  rintro i s ⟨hi, hb, hp⟩
  refine Sm.seq ?_
  refine Sm.seqW ?_
  conv => whnf
  refine hp.load (v := (.slice aL ls.length cL)) (by repeat (first | exact Has.here | apply Has.there | (apply Has.swap; repeat (first | exact HasR.here | apply HasR.there)))) (by rfl) rfl rfl rfl ?_
  conv => whnf
  refine Sm.live [0, 4, 5, 6, 13] ?_
  conv => whnf
  refine Sm.ofW ?_
  conv => whnf
  refine Br.mk (fun hq => ?_) (fun hq => ?_)
  · have hq : i < ls.length := by have : (i : Int) < (ls.length : Int) := of_decide_eq_true hq; omega
    have hqe : i < es.length := by omega
    obtain ⟨q1, e1, e2⟩ := index_lb (hp.slF (κ := κL) (v := .slice aL ls.length cL) (n := ls.length) (by repeat (first | exact Rm.here | apply Rm.there))) .i64 hq
    conv => whnf
    refine Sm.seq ?_
    refine Sm.block ?_
    refine Sm.seqW ?_
    conv => whnf
    refine ⟨[0, 1, 3, 7, 0, 31, 63, 0, 255], by decide +kernel, by decide +kernel, ?_⟩
    conv => whnf
    refine hp.load (v := (.slice aL ls.length cL)) (by repeat (first | exact Has.here | apply Has.there | (apply Has.swap; repeat (first | exact HasR.here | apply HasR.there)))) (by rfl) rfl rfl rfl ?_
    conv => whnf
    refine Om.of _ (e1) ?_
    conv => whnf
    refine Om.of _ (e2) ?_
    conv => whnf
    refine hp.loadA (l := l.cells) (by repeat (first | exact Has.here | apply Has.there | (apply Has.swap; repeat (first | exact HasR.here | apply HasR.there)))) rfl (by rfl) rfl rfl ?_
    conv => whnf
    refine Om.of _ (dlab_eq ls[i] l _) ?_
    conv => whnf
    refine Sm.live [0, 4, 5, 6, 24] ?_
    conv => whnf
    refine Sm.ofW ?_
    conv => whnf
    by_cases hl : ls[i] = l
    · refine Br.yes (decide_eq_true hl) ?_
      obtain ⟨kC, bC, eC, _, hp⟩ := hp.onBlk (κ := κC) (e := 4) (n := es.length) (v := .slice aC es.length cC) (cs := chC es) (by repeat (first | exact Rm.here | apply Rm.there)) (by omega)
      injection eC with eC1 _ eC2
      subst eC1 eC2
      have hfound := docOf_found hq hlen hl (fun j hj => hb j (by omega) hj)
      have hset := docOf_set hq hlen hl (fun j hj => hb j (by omega) hj)
      conv => whnf
      refine ⟨[0, 1, 3, 7, 0, 0, 32, 96, 224, 0, 992, 2016, 0, 8160, 16383, 32767], by decide +kernel, by decide +kernel, ?_⟩
      conv => whnf
      refine hp.load (v := (.slice (some ⟨bC, 0, none⟩) es.length es.length)) (by repeat (first | exact Has.here | apply Has.there | (apply Has.swap; repeat (first | exact HasR.here | apply HasR.there)))) (by rfl) rfl rfl rfl ?_
      conv => whnf
      refine hp.load (v := (.slice (some ⟨bC, 0, none⟩) es.length es.length)) (by repeat (first | exact Has.here | apply Has.there | (apply Has.swap; repeat (first | exact HasR.here | apply HasR.there)))) (by rfl) rfl rfl rfl ?_
      conv => whnf
      refine Om.of _ (index_chB hqe) ?_
      conv => whnf
      obtain ⟨cc, hcc⟩ : ∃ cc, cc = es[i]'hqe := ⟨_, rfl⟩
      have hch : Chs s K es := hp.okF (chsA K es) (by simp)
      obtain ⟨κ0, hsr, hκ0⟩ := hch.sr (es[i]'hqe) (List.getElem_mem _)
      have hok8 := hch.ok (es[i]'hqe) (List.getElem_mem _)
      have hset := fun w l' => hset ((es[i]'hqe).1.add r, w) l'
      rw [← hcc] at hfound hsr hok8
      rw [← hcc] at hset
      obtain ⟨c0, v0⟩ := cc
      replace hsr : Sr s κ0 v0 c0.last := hsr
      replace hok8 : c0.last.length ≤ 8 ∧ ∀ q ∈ c0.last, q.ok := hok8
      obtain ⟨a0, p0, rfl⟩ := hsr.shape
      have hrd : s.rd bC = some (chC es) := (hp.okF (blkA kC bC (chC es) 4) (by simp) : Blk s kC bC (chC es) 4).rd
      have hsl : sl (chC es) (i * 4) 4 = some (chCells c0 (.slice a0 c0.last.length p0)) := by
        have e := fm_at (fun e : Ch × Value => chCells e.1 e.2) ch_w hqe
        rw [← hcc] at e
        unfold sl
        rw [show ((chC es).drop (i * 4)).take 4 = chCells c0 (.slice a0 c0.last.length p0) from e]
        rfl
      refine Om.of _ (load_agg Try.underlying73 rfl hrd hsl) ?_
      conv => whnf
      refine hp.loadA (l := r.cells) (by repeat (first | exact Has.here | apply Has.there | (apply Has.swap; repeat (first | exact HasR.here | apply HasR.there)))) rfl (by rfl) rfl rfl ?_
      conv => whnf
      refine radd_spec hp.rst ((slA κ0 (.slice a0 c0.last.length p0) 4 c0.last.length (rcCells c0.last)).lo s _ hsr) hok8.2 (by have := hok8.1; omega) okr ?_
      intro w κ' s1 h1 k1
      conv => whnf
      refine hp.dkN h1 k1 ?_
      clear hp h1 k1 hsr hrd hch
      intro s hp
      conv => whnf
      refine Om.of _ (index_chB hqe) ?_
      conv => whnf
      obtain ⟨aw, cw, rfl⟩ := (hp.okF (slA κ' w 4 (c0.add r).last.length (rcCells (c0.add r).last)) (by simp) : Sl s κ' w 4 _ _).shape
      have hw := fm_set (fun e : Ch × Value => chCells e.1 e.2) ch_w hqe (c0.add r, .slice aw (c0.add r).last.length cw)
      refine hp.rst.storeA (vs := chCells (c0.add r) (.slice aw (c0.add r).last.length cw)) rfl (by repeat (first | exact Rm.here | apply Rm.there)) (by
        show i * 4 + 4 ≤ (chC es).length
        rw [show (chC es).length = es.length * 4 from fm_len _ ch_w es]; omega) rfl rfl rfl ?_
      intro s1 h1 l1
      conv => whnf
      refine hp.dkW h1 l1 ?_
      clear hp h1 l1
      intro s hp
      rw [show putAt (chC es) (i * 4) (chCells (c0.add r) (.slice aw (c0.add r).last.length cw)) = chC (es.set i (c0.add r, .slice aw (c0.add r).last.length cw)) from hw] at hp
      conv => whnf
      obtain ⟨e9, he9⟩ : ∃ e9, e9 = ((c0.add r, Value.slice aw (c0.add r).last.length cw) : Ch × Value) := ⟨_, rfl⟩
      obtain ⟨es9, hes9⟩ : ∃ es9, es9 = es.set i (c0.add r, .slice aw (c0.add r).last.length cw) := ⟨_, rfl⟩
      have hl9 : es9.length = es.length := by rw [hes9]; exact List.length_set
      have hS : Sr s κ' (.slice aw (c0.add r).last.length cw) (c0.add r).last := hp.okF (slA κ' (.slice aw (c0.add r).last.length cw) 4 (c0.add r).last.length (rcCells (c0.add r).last)) (by simp)
      have hC2 : Chs s K es := hp.okF (chsA K es) (by simp)
      have hK2 := hC2.set hp.wf hS (add_len8 hok8 okr) (es' := es9) (fun e he => by rw [hes9] at he; exact List.mem_or_eq_of_mem_set he)
      have hdoc : ∀ l', docOf ls es9 l' = if l' = l then (c0.add r, .slice aw (c0.add r).last.length cw) else docOf ls es l' := fun l' => by rw [hes9]; exact hset _ l'
      rw [← hes9] at hp
      replace hp := hp.join2 (a := chsA K es) (b := slA κ' (.slice aw (c0.add r).last.length cw) 4 (c0.add r).last.length (rcCells (c0.add r).last)) (c := chsA (K ++ κ'.toList) es9) (by repeat (first | exact Rm.here | apply Rm.there)) (by repeat (first | exact Rm.here | apply Rm.there)) hK2 (fun j hj => by
        rcases List.mem_append.1 hj with g | g
        · exact .inl g
        · exact .inr (by cases κ' with
            | none => cases g
            | some k => simp at g; rw [g]; rfl))
      replace hp := hp.as (a := blkA kC bC (chC es9) 4) (a' := onA (some kC) (.slice (some ⟨bC, 0, none⟩) es.length es.length) 4 es9.length (chC es9)) (by repeat (first | exact Rm.here | apply Rm.there)) (fun h => ⟨.inr ⟨kC, rfl, bC, by rw [hl9], h, fm_len _ ch_w es9⟩⟩) (fun j hj => by injection hj with hj; exact hj.symm)
      replace hp := hp.as (a := onA κL (.slice aL ls.length cL) 2 ls.length (lbCells ls)) (a' := onA κL (.slice aL ls.length cL) 2 ls.length (lbCells ls)) (by repeat (first | exact Rm.here | apply Rm.there)) (fun h => h) (fun j hj => hj)
      replace hp := hp.as (a := blkA p p [.slice aL ls.length cL, .slice (some ⟨bC, 0, none⟩) es.length es.length] 2) (a' := blkA p p [.slice aL ls.length cL, .slice (some ⟨bC, 0, none⟩) es.length es.length] 2) (by repeat (first | exact Rm.here | apply Rm.there)) (fun h => h) (fun j hj => hj)
      have hm : l ∈ ls := by rw [← hl]; exact List.getElem_mem hq
      refine ⟨DAdd.of (ls' := ls) (es' := es9) (hp.pik (by repeat (first | exact Pik.nil | exact Pik.refl _ | exact Rm.here | apply Rm.there | apply Pik.cons | apply Pik.skip))) (by rw [hl9]; exact hlen) (if_pos hm).symm (fun l' => ?_)⟩
      rw [hdoc l', hfound]
      split <;> rfl
    · refine Br.no (decide_eq_false hl) ?_
      conv => whnf
      refine Sm.ofW ?_
      conv => whnf
      exact ⟨i + 1, by (show ls.length - (i + 1) < ls.length - i); omega, subK_ok (by refine ⟨rfl, rfl, rfl, congrArg (fun x => some (Value.int .i64 x)) (show IntKind.i64.wrap ((i : Int) + 1) = ((i + 1 : Nat) : Int) by rw [wi64 (by omega) (by omega)]; omega), trivial⟩), by omega, fun j hj hji => by
        rcases Nat.lt_or_ge j i with g | g
        · exact hb j hj g
        · obtain rfl : j = i := by omega
          exact hl, hp.pik (by repeat (first | exact Pik.nil | exact Pik.refl _ | exact Rm.here | apply Rm.there | apply Pik.cons | apply Pik.skip))⟩
  · have hq : i = ls.length := by have := of_decide_eq_false hq; omega
    subst hq
    have hnm : l ∉ ls := fun h => by
      obtain ⟨j, hj, e⟩ := List.getElem_of_mem h
      exact hb j hj hj e
    conv => whnf
    refine Sm.seqC (fun e L' s' => e = .normal ∧ (∃ vL κL', Hp (docFoot p κL κC K) z [] [blkA p p [vL, .slice aC es.length cC] 2, onA κL' vL 2 (ls ++ [l]).length (lbCells (ls ++ [l])), blkA p5 p5 r.cells 4, onA κC (.slice aC es.length cC) 4 es.length (chC es), chsA K es] s') ∧ Sub [(0, .pointer (some ⟨p, 0, none⟩)), (5, .pointer (some ⟨p5, 0, none⟩))] L') ?_ ?_
    · conv => whnf
      refine ⟨[0, 0, 2, 6, 14, 0, 32, 126, 255, 511, 1023], by decide +kernel, by decide +kernel, ?_⟩
      conv => whnf
      refine hp.load (v := (.slice aL ls.length cL)) (by repeat (first | exact Has.here | apply Has.there | (apply Has.swap; repeat (first | exact HasR.here | apply HasR.there)))) (by rfl) rfl rfl rfl ?_
      conv => whnf
      refine hp.loadA (l := l.cells) (by repeat (first | exact Has.here | apply Has.there | (apply Has.swap; repeat (first | exact HasR.here | apply HasR.there)))) rfl (by rfl) rfl rfl ?_
      conv => whnf
      refine hp.rst.lit (cs := l.cells) (e := 2) (by rfl) ?_
      intro b1 s1 h1 k1
      conv => whnf
      refine hp.dkN h1 k1 ?_
      clear hp h1 k1
      intro s hp
      conv => whnf
      have x7 : Sl (reset s) (some b1) (.slice (some ⟨b1, 0, none⟩) 1 1) 2 1 l.cells := hp.rst.blkSl (k := b1) (b := b1) (n := 1) (by repeat (first | exact Has.here | apply Has.there | (apply Has.swap; repeat (first | exact HasR.here | apply HasR.there)))) rfl
      refine hp.rst.app LLs Try.underlying60 rfl (by repeat (first | exact Rm.here | apply Rm.there)) (elems_sl x7) rfl rfl (by omega) ?_
      clear x7
      intro v1 κ1 s1 h1
      conv => whnf
      have e7 : lbCells ls ++ l.cells = lbCells (ls ++ [l]) := by unfold lbCells; rw [List.flatMap_append]; simp
      have e8 : ls.length + 1 = (ls ++ [l]).length := by simp
      rw [e7, e8] at h1
      obtain ⟨a1, c1, rfl⟩ := (h1.slF (κ := κ1) (v := v1) (n := (ls ++ [l]).length) (by repeat (first | exact Rm.here | apply Rm.there))).shape
      refine hp.dkA h1 ?_ ?_
      all_goals
        clear hp h1
        intro s hp
        conv => whnf
        (refine hp.rst.store (by repeat (first | exact Rm.here | apply Rm.there)) (by first | exact of_decide_eq_true rfl | (simp; done) | (simp; omega) | omega) rfl rfl rfl rfl ?_; intro s1 h1 l1; (conv => whnf); refine hp.dkW h1 l1 ?_; clear h1 l1; intro s hp; conv => whnf)
        exact ⟨rfl, ⟨.slice a1 (ls ++ [l]).length c1, κ1, hp.pik (by repeat (first | exact Pik.nil | exact Pik.refl _ | exact Rm.here | apply Rm.there | apply Pik.cons | apply Pik.skip))⟩, subK_ok ⟨rfl, rfl, trivial⟩⟩
    clear hp
    rintro e L' s ⟨rfl, ⟨vL, κL', hp⟩, hs⟩
    refine Sm.weak _ hs ?_
    clear hs
    refine Sm.ofW ?_
    conv => whnf
    refine ⟨[0, 0, 2, 6, 14, 0, 0, 96, 224, 510, 1023, 2047, 4095], by decide +kernel, by decide +kernel, ?_⟩
    conv => whnf
    refine hp.load (v := (.slice aC es.length cC)) (by repeat (first | exact Has.here | apply Has.there | (apply Has.swap; repeat (first | exact HasR.here | apply HasR.there)))) (by rfl) rfl rfl rfl ?_
    conv => whnf
    refine hp.loadA (l := r.cells) (by repeat (first | exact Has.here | apply Has.there | (apply Has.swap; repeat (first | exact HasR.here | apply HasR.there)))) rfl (by rfl) rfl rfl ?_
    conv => whnf
    refine radd_spec (c := Ch.zero) (κ := none) (v := .slice none 0 0) hp.rst (Sl.nil _ _) (fun q hq => by cases hq) (by decide) okr ?_
    intro w κ' s1 h1 k1
    conv => whnf
    refine hp.dkN h1 k1 ?_
    clear hp h1 k1
    intro s hp
    obtain ⟨c0, hc0⟩ : ∃ c0, c0 = Ch.zero.add r := ⟨_, rfl⟩
    rw [← hc0] at hp ⊢
    obtain ⟨aw, cw, rfl⟩ := (hp.okF (slA κ' w 4 c0.last.length (rcCells c0.last)) (by simp) : Sl s κ' w 4 _ _).shape
    conv => whnf
    refine hp.rst.lit (cs := chCells c0 (.slice aw c0.last.length cw)) (e := 4) (by rfl) ?_
    intro b1 s1 h1 k1
    conv => whnf
    refine hp.dkN h1 k1 ?_
    clear hp h1 k1
    intro s hp
    conv => whnf
    have x7 : Sl (reset s) (some b1) (.slice (some ⟨b1, 0, none⟩) 1 1) 4 1 (chCells c0 (.slice aw c0.last.length cw)) := hp.rst.blkSl (k := b1) (b := b1) (n := 1) (by repeat (first | exact Has.here | apply Has.there | (apply Has.swap; repeat (first | exact HasR.here | apply HasR.there)))) rfl
    refine hp.rst.app LCs Try.underlying61 rfl (by repeat (first | exact Rm.here | apply Rm.there)) (elems_sl x7) rfl rfl (by omega) ?_
    clear x7
    intro v1 κ1 s1 h1
    conv => whnf
    obtain ⟨es9, hes9⟩ : ∃ es9, es9 = es ++ [(c0, Value.slice aw c0.last.length cw)] := ⟨_, rfl⟩
    have e7 : chC es ++ chCells c0 (.slice aw c0.last.length cw) = chC es9 := by rw [hes9]; unfold chC; rw [List.flatMap_append]; simp
    have e8 : es.length + 1 = es9.length := by rw [hes9]; simp
    rw [e7, e8] at h1
    obtain ⟨a1, c1, rfl⟩ := (h1.slF (κ := κ1) (v := v1) (n := es9.length) (by repeat (first | exact Rm.here | apply Rm.there))).shape
    obtain ⟨a2, c2, rfl⟩ := (h1.slF (κ := κL') (v := vL) (n := (ls ++ [l]).length) (by repeat (first | exact Rm.here | apply Rm.there))).shape
    have hdoc : ∀ l', docOf (ls ++ [l]) es9 l' = if l' = l then (c0, .slice aw c0.last.length cw) else docOf ls es l' := fun l' => by rw [hes9]; exact docOf_app hlen hnm _ l'
    have hok9 : c0.last.length ≤ 8 ∧ ∀ q ∈ c0.last, q.ok := by rw [hc0]; exact add_len8 ⟨by decide, fun q hq => by cases hq⟩ okr
    refine hp.dkA h1 ?_ ?_
    all_goals
      clear hp h1
      intro s hp
      conv => whnf
      (refine hp.rst.store (by repeat (first | exact Rm.here | apply Rm.there)) (by first | exact of_decide_eq_true rfl | (simp; done) | (simp; omega) | omega) rfl rfl rfl rfl ?_; intro s1 h1 l1; (conv => whnf); refine hp.dkW h1 l1 ?_; clear h1 l1; intro s hp; conv => whnf)
      have hS : Sr s κ' (.slice aw c0.last.length cw) c0.last := hp.okF (slA κ' (.slice aw c0.last.length cw) 4 c0.last.length (rcCells c0.last)) (by simp)
      have hC2 : Chs s K es := hp.okF (chsA K es) (by simp)
      have hK2 := hC2.set hp.wf hS hok9 (es' := es9) (fun e he => by rw [hes9] at he; simpa using he)
      replace hp := hp.join2 (a := chsA K es) (b := slA κ' (.slice aw c0.last.length cw) 4 c0.last.length (rcCells c0.last)) (c := chsA (K ++ κ'.toList) es9) (by repeat (first | exact Rm.here | apply Rm.there)) (by repeat (first | exact Rm.here | apply Rm.there)) hK2 (fun j hj => by
        rcases List.mem_append.1 hj with g | g
        · exact .inl g
        · exact .inr (by cases κ' with
            | none => cases g
            | some k => simp at g; rw [g]; rfl))
      replace hp := hp.as (a := onA κ1 (.slice a1 es9.length c1) 4 es9.length (chC es9)) (a' := onA κ1 (.slice a1 es9.length c1) 4 es9.length (chC es9)) (by repeat (first | exact Rm.here | apply Rm.there)) (fun h => h) (fun j hj => hj)
      replace hp := hp.as (a := onA κL' (.slice a2 (ls ++ [l]).length c2) 2 (ls ++ [l]).length (lbCells (ls ++ [l]))) (a' := onA κL' (.slice a2 (ls ++ [l]).length c2) 2 (ls ++ [l]).length (lbCells (ls ++ [l]))) (by repeat (first | exact Rm.here | apply Rm.there)) (fun h => h) (fun j hj => hj)
      replace hp := hp.as (a := blkA p p [.slice a2 (ls ++ [l]).length c2, .slice a1 es9.length c1] 2) (a' := blkA p p [.slice a2 (ls ++ [l]).length c2, .slice a1 es9.length c1] 2) (by repeat (first | exact Rm.here | apply Rm.there)) (fun h => h) (fun j hj => hj)
      refine ⟨DAdd.of (ls' := ls ++ [l]) (es' := es9) (hp.pik (by repeat (first | exact Pik.nil | exact Pik.refl _ | exact Rm.here | apply Rm.there | apply Pik.cons | apply Pik.skip))) (by rw [← e8, List.length_append, hlen]; rfl) (if_neg hnm).symm (fun l' => ?_)⟩
      rw [hdoc l', docOf_none hnm]
      split
      · exact hc0
      · rfl
end Go.Ev
end

/- What ChainTells says. No condition. -/
noncomputable section
namespace Go.Ev
open Go.Proofs
set_option linter.unusedVariables false
set_option maxRecDepth 100000

theorem Hp.addD {X : Nat → Prop} {s0 s : St} {R F G : List At} {p : Nat} {κL κC : Option Nat} {K : List Nat} {ls : List Lb} {es : List (Ch × Value)} (hp : Hp X s0 R F s) (m : Rm (docA p κL κC K ls es) F G) (hsm : ls.length ≤ 1000) (l : Lb) {r : Rc} (okr : r.ok) {Q : Value → St → Prop}
    (k : ∀ v κL' κC' K' ls' es' s', Hp X s0 R (docA p κL' κC' K' ls' es' :: G) s' → (ls' = if l ∈ ls then ls else ls ++ [l]) → (∀ l', (docOf ls' es' l').1 = if l' = l then (docOf ls es l).1.add r else (docOf ls es l').1) → Q v s') :
    Cw Try.prog 36 [.pointer (some ⟨p, 0, none⟩), l.val, r.val] s Q :=
  (dadd_spec hp.wf (hp.okF _ m.sub.1 : Doc s p κL κC K ls es) hsm l okr).mono fun v s' d => by
    obtain ⟨κL', κC', K', ls', es', h1, h2, h3, h4⟩ := d.ex
    exact k v κL' κC' K' ls' es' s' (hp.upd m d.fr (fun j hj => .inl hj) h2 h1) h3 h4
def six : List Lb := [⟨0, 0⟩, ⟨0, 1⟩, ⟨1, 0⟩, ⟨1, 1⟩, ⟨2, 0⟩, ⟨2, 1⟩]
theorem lab_six (n : Int) : lab n ∈ six := by
  unfold lab six
  have h1 : n % 3 = 0 ∨ n % 3 = 1 ∨ n % 3 = 2 := by omega
  have h2 : n.tdiv 3 % 2 = 0 ∨ n.tdiv 3 % 2 = 1 := by omega
  rcases h1 with h1 | h1 | h1 <;> rcases h2 with h2 | h2 <;> rw [h1, h2] <;> simp
theorem six_len {ls : List Lb} (h1 : ls.Nodup) (h2 : ∀ x ∈ ls, x ∈ six) : ls.length ≤ 6 := List.Nodup.length_le_of_subset h1 h2
theorem Doc.sr {s : St} {p : Nat} {κL κC : Option Nat} {K : List Nat} {ls : List Lb} {es : List (Ch × Value)} (h : Doc s p κL κC K ls es) (l : Lb) : ∃ κ, Sr s κ (docOf ls es l).2 (docOf ls es l).1.last := by
  have key : ∀ (ls : List Lb) (es' : List (Ch × Value)), (∀ e ∈ es', e ∈ es) → ∃ κ, Sr s κ (docOf ls es' l).2 (docOf ls es' l).1.last := by
    intro ls
    induction ls with
    | nil => intro es' _; rw [docOf_nil]; exact ⟨none, Sl.nil _ _⟩
    | cons a ls ih =>
      intro es' hs
      cases es' with
      | nil => exact ⟨none, Sl.nil _ _⟩
      | cons e es' =>
        show ∃ κ, Sr s κ (if a = l then e else docOf ls es' l).2 (if a = l then e else docOf ls es' l).1.last
        by_cases g : a = l
        · rw [if_pos g]
          obtain ⟨κ, h1, _⟩ := h.ch.sr e (hs e List.mem_cons_self)
          exact ⟨κ, h1⟩
        · rw [if_neg g]
          exact ih es' fun x hx => hs x (List.mem_cons_of_mem _ hx)
  exact key ls es fun e he => he
theorem index_rcB {b n c i : Nat} (hi : i < n) : evIndexAddr Try.prog 52 (.slice (some ⟨b, 0, none⟩) n c) (.int .i64 (i : Int)) = some (.pointer (some ⟨b, i * 4, none⟩)) := by
  obtain ⟨j, hi1, hi2, hi3, hi4⟩ := R52.hi
  show (match Try.prog.underlying 52, Value.slice (some ⟨b, 0, none⟩) n c, Value.int .i64 (.ofNat i) with
      | some (.slice e), .slice (some a) n _, .int _ (.ofNat i) => match Nat.blt i n, Try.prog.info? e with
        | true, some j => some (Value.pointer (some ⟨a.block, a.off + i * j.size, none⟩))
        | _, _ => none
      | some (.array n e), .pointer (some a), .int _ (.ofNat i) => match Nat.blt i n, Try.prog.info? e with
        | true, some j => some (Value.pointer (some ⟨a.block, a.off + i * j.size, none⟩))
        | _, _ => none
      | _, _, _ => none) = _
  rw [R52.hu]
  simp only [blt_of hi, hi1, hi2, Nat.zero_add]
theorem rcCells_who (l : List Rc) (k : Nat) (hk : k < l.length) (n : Int) : (rcCells l).set (k * 4 + 0) (.int .i64 n) = rcCells (l.set k { l[k] with who := n }) := by
  induction k generalizing l with
  | zero =>
    cases l with
    | nil => simp at hk
    | cons r l => rfl
  | succ k ih =>
    cases l with
    | nil => simp at hk
    | cons r l =>
      have hk' : k < l.length := by simpa using hk
      show (r.cells ++ rcCells l).set _ _ = r.cells ++ rcCells (l.set k _)
      have e1 : r.cells.length = 4 := rfl
      rw [List.set_append_right _ _ (by omega), e1]
      have := ih l hk'
      rw [show (k + 1) * 4 + 0 - 4 = k * 4 + 0 by omega, this]
      rfl
theorem tells24_walk {s0 : St} (wf : WF s0) {v : Value} {l : List Rw} (hv : Sl s0 none v 5 l.length (rwCells l)) (ok : ∀ x ∈ l, x.ok) (hl : l.length ≤ 140737488351232) {bend at_ by_ : Int} (hbe : inR bend) (hat : inR at_) (hby : inR by_) :
    Cw Try.prog 9 [v, .int .i64 bend, .int .i64 at_, .int .i64 by_] s0 fun r _ => r = .bool true := by
  obtain ⟨a, cp, rfl⟩ := hv.shape
  have hp : Hp (fun _ => False) s0 [slA none (.slice a l.length cp) 5 l.length (rwCells l)] [] s0 := Hp.start _ wf _ (by simp; exact hv)
  refine Cw.enterS Try.func9 rfl rfl ?_
  refine Sm.seqW ?_
  conv => whnf
  refine Sm.seqW ?_
  conv => whnf
  refine hp.newB ?_
  clear hp
  intro b0 kb mb s hp _
  conv => whnf
  refine Sm.live [0, 1, 2, 3, 9] ?_
  conv => whnf
  refine Sm.seqW ?_
  conv => whnf
  refine hp.var (cs := [.slice none 0 0, .slice none 0 0]) (e := 2) rfl rfl ?_
  clear hp
  intro p10 s hp _
  conv => whnf
  replace hp := hp.as (a := blkA p10 p10 [.slice none 0 0, .slice none 0 0] 2) (a' := docA p10 none none [] [] []) (by repeat (first | exact Rm.here | apply Rm.there)) (fun h => ⟨⟨_, _, h, ⟨.inl ⟨rfl, rfl, rfl, rfl⟩⟩, ⟨.inl ⟨rfl, rfl, rfl, rfl⟩⟩⟩, ⟨fun j hj => by (cases hj), fun e he => by (cases he), fun e he => by (cases he)⟩, rfl, by simp, by simp, by simp, fun j hj => by (cases hj), fun j hj => by (cases hj)⟩) (fun j hj => by
    rcases hj with hj | hj | hj | hj
    · exact hj
    · cases hj
    · cases hj
    · cases hj)
  refine Sm.live [0, 1, 2, 3, 9, 10] ?_
  conv => whnf
  refine Sm.seq ?_
  refine Sm.seqW ?_
  conv => whnf
  refine (cknown_spec hp.wf).mono ?_
  rintro _ s' ⟨rfl, k1⟩
  replace hp := hp.k0 k1
  clear k1
  conv => whnf
  repeat (first | (refine Br.yes (by first | with_reducible rfl | with_reducible exact beq_self_eq_true _ | rfl) ?_; conv => whnf) | (refine Br.no (by first | with_reducible rfl | with_reducible exact bne_self_eq_false _ | rfl) ?_; conv => whnf))
  refine Om.of (.bool false) rfl ?_
  conv => whnf
  repeat (first | (refine Br.yes (by first | with_reducible rfl | with_reducible exact beq_self_eq_true _ | rfl) ?_; conv => whnf) | (refine Br.no (by first | with_reducible rfl | with_reducible exact bne_self_eq_false _ | rfl) ?_; conv => whnf))
  refine Sm.ofW ?_
  conv => whnf
  repeat (first | (refine Br.yes (by first | with_reducible rfl | with_reducible exact beq_self_eq_true _ | rfl) ?_; conv => whnf) | (refine Br.no (by first | with_reducible rfl | with_reducible exact bne_self_eq_false _ | rfl) ?_; conv => whnf))
  refine Sm.live [0, 1, 2, 3, 9, 10] ?_
  conv => whnf
  refine Sm.seq ?_
  refine Sm.seqW ?_
  conv => whnf
  refine Sm.live [1, 2, 3, 9, 10, 24, 25, 26] ?_
  conv => whnf
  refine Sm.block ?_
  refine Sm.loop ?_
  refine Lp.ofS (α := Nat × List Ent × (Option Nat × Option Nat × List Nat) × List Lb × List (Ch × Value)) (fun x => [(1, .int .i64 bend), (2, .int .i64 at_), (3, .int .i64 by_), (9, .pointer (some ⟨b0, 0, none⟩)), (10, .pointer (some ⟨p10, 0, none⟩)), (24, .slice a l.length cp), (25, .int .i64 (l.length : Int)), (26, .int .i64 (x.1 : Int))])
    (fun x s' => x.1 ≤ l.length ∧ Hp (fun _ => False) s0 [slA none (.slice a l.length cp) 5 l.length (rwCells l)] [bookA (.pointer (some ⟨b0, 0, none⟩)) kb mb x.2.1, docA p10 x.2.2.1.1 x.2.2.1.2.1 x.2.2.1.2.2 x.2.2.2.1 x.2.2.2.2] s' ∧
      (∀ b, chOf x.2.1 b = (docOf x.2.2.2.1 x.2.2.2.2 b).1) ∧ x.2.2.2.1.Nodup ∧ ∀ y ∈ x.2.2.2.1, y ∈ six) (fun x => l.length - x.1) ?_ (0, [], (none, none, []), [], [])
    (subK_ok (by refine ⟨rfl, rfl, rfl, rfl, rfl, rfl, rfl, rfl, trivial⟩)) ⟨Nat.zero_le _, (by replace hp := hp.as (a := bookA (.pointer (some ⟨b0, 0, none⟩)) kb mb []) (a' := bookA (.pointer (some ⟨b0, 0, none⟩)) kb mb []) (by repeat (first | exact Rm.here | apply Rm.there)) (fun h => h) (fun j hj => hj); exact hp.pik (by repeat (first | exact Pik.nil | exact Pik.refl _ | exact Rm.here | apply Rm.there | apply Pik.cons | apply Pik.skip))), fun _ => rfl, List.nodup_nil, fun y hy => by cases hy⟩
  clear hp
  rintro ⟨i, E, ⟨κL, κC, K⟩, ls, es⟩ s ⟨hi, hp, hE, hnd, hsix⟩
  simp only at hi hp hE hnd hsix
  have hls := six_len hnd hsix
  refine Sm.seqW ?_
  conv => whnf
  refine Sm.live [1, 2, 3, 9, 10, 24, 25, 26, 27] ?_
  conv => whnf
  refine Sm.seq ?_
  refine Sm.ofW ?_
  conv => whnf
  refine Br.mk (fun hc => ?_) (fun hc => ?_)
  · have hc : i < l.length := by have := of_decide_eq_true hc; omega
    have hok := ok l[i] (List.getElem_mem hc)
    conv => whnf
    refine Sm.seq ?_
    refine Sm.block ?_
    refine Sm.seqW ?_
    conv => whnf
    obtain ⟨p, e1, e2⟩ := index_rw (hp.slR .here) .i64 hc
    refine Om.of _ (e1) ?_
    conv => whnf
    refine Om.of _ (e2) ?_
    conv => whnf
    refine hp.alloc (cs := [.int .i64 0, .int .i64 0, .int .i64 0, .int .i64 0, .string ⟨#[]⟩]) (e := 5) rfl rfl rfl rfl rfl ?_
    clear hp e1 e2
    intro b5 s hp _
    conv => whnf
    refine hp.storeW (vs := l[i].cells) rfl (by repeat (first | exact Rm.here | apply Rm.there)) (by first | exact C2_same _ _ _ _ | exact C4_same _ _ _ _ _ _ _ _ | exact Dc_same _ _ | rfl) rfl rfl rfl ?_
    clear hp
    intro s hp _
    conv => whnf
    refine Sm.live [1, 2, 3, 9, 10, 12, 24, 25, 26] ?_
    conv => whnf
    refine Sm.seqC (fun e L' s' => e = .normal ∧ (∃ E', Hp (fun _ => False) s0 [slA none (.slice a l.length cp) 5 l.length (rwCells l)] [bookA (.pointer (some ⟨b0, 0, none⟩)) kb mb E', blkA b5 b5 l[i].cells 5, docA p10 κL κC K ls es] s' ∧ ∀ l', chOf E' l' = if l' = lab l[i].l then (chOf E (lab l[i].l)).add l[i].r else chOf E l') ∧ Sub [(1, .int .i64 bend), (2, .int .i64 at_), (3, .int .i64 by_), (9, .pointer (some ⟨b0, 0, none⟩)), (10, .pointer (some ⟨p10, 0, none⟩)), (12, .pointer (some ⟨b5, 0, none⟩)), (24, .slice a l.length cp), (25, .int .i64 (l.length : Int)), (26, .int .i64 (i : Int))] L') ?_ ?_
    · conv => whnf
      refine ⟨[0, 0, 2, 6, 0, 30, 63], by decide +kernel, by decide +kernel, ?_⟩
      conv => whnf
      (refine hp.load (by repeat (first | exact Has.here | apply Has.there | (apply Has.swap; repeat (first | exact HasR.here | apply HasR.there)))) (by rfl) rfl rfl rfl ?_; conv => whnf)
      refine hp.rst.call (label_spec hp.rst.wf hok.l) ?_
      rintro _ s1 rfl h1 k1
      conv => whnf
      refine hp.dkN h1 k1 ?_
      clear hp h1 k1
      intro s hp
      conv => whnf
      refine hp.loadA (l := l[i].cells) (by repeat (first | exact Has.here | apply Has.there | (apply Has.swap; repeat (first | exact HasR.here | apply HasR.there)))) rfl (by rfl) rfl rfl ?_
      conv => whnf
      refine hp.rst.call (record_spec hp.rst.wf l[i]) ?_
      rintro _ s1 rfl h1 k1
      conv => whnf
      refine hp.dkN h1 k1 ?_
      clear hp h1 k1
      intro s hp
      conv => whnf
      refine hp.rst.addB (by repeat (first | exact Rm.here | apply Rm.there)) (lab l[i].l) hok.r ?_
      intro v E' s1 h1 hE'
      conv => whnf
      refine hp.dkA h1 ?_ ?_
      all_goals
        clear hp h1
        intro s hp
        conv => whnf
        exact ⟨rfl, ⟨E', hp.pik (by repeat (first | exact Pik.nil | exact Pik.refl _ | exact Rm.here | apply Rm.there | apply Pik.cons | apply Pik.skip)), hE'⟩, subK_ok ⟨rfl, rfl, rfl, rfl, rfl, rfl, rfl, rfl, rfl, trivial⟩⟩
    clear hp
    rintro e L' s ⟨rfl, ⟨E', hp, hE'⟩, hs⟩
    refine Sm.weak _ hs ?_
    clear hs
    refine Sm.ofW ?_
    conv => whnf
    refine ⟨[0, 0, 2, 6, 0, 30, 63], by decide +kernel, by decide +kernel, ?_⟩
    conv => whnf
    (refine hp.load (by repeat (first | exact Has.here | apply Has.there | (apply Has.swap; repeat (first | exact HasR.here | apply HasR.there)))) (by rfl) rfl rfl rfl ?_; conv => whnf)
    refine hp.rst.call (label_spec hp.rst.wf hok.l) ?_
    rintro _ s1 rfl h1 k1
    conv => whnf
    refine hp.dkN h1 k1 ?_
    clear hp h1 k1
    intro s hp
    conv => whnf
    refine hp.loadA (l := l[i].cells) (by repeat (first | exact Has.here | apply Has.there | (apply Has.swap; repeat (first | exact HasR.here | apply HasR.there)))) rfl (by rfl) rfl rfl ?_
    conv => whnf
    refine hp.rst.call (record_spec hp.rst.wf l[i]) ?_
    rintro _ s1 rfl h1 k1
    conv => whnf
    refine hp.dkN h1 k1 ?_
    clear hp h1 k1
    intro s hp
    conv => whnf
    refine hp.rst.addD (by repeat (first | exact Rm.here | apply Rm.there)) (by omega) (lab l[i].l) hok.r ?_
    intro v κL' κC' K' ls' es' s1 h1 hls' hes'
    conv => whnf
    have hnd' : ls'.Nodup ∧ ∀ y ∈ ls', y ∈ six := by
      rw [hls']
      by_cases hm : lab l[i].l ∈ ls
      · rw [if_pos hm]; exact ⟨hnd, hsix⟩
      · rw [if_neg hm]
        refine ⟨List.nodup_append.2 ⟨hnd, by simp, fun x hx y hy => ?_⟩, fun y hy => ?_⟩
        · rw [List.mem_singleton] at hy
          intro e; exact hm (by rw [← hy, ← e]; exact hx)
        · rcases List.mem_append.1 hy with g | g
          · exact hsix y g
          · rw [List.mem_singleton] at g; rw [g]; exact lab_six _
    have hEE : ∀ b, chOf E' b = (docOf ls' es' b).1 := fun b => by rw [hE' b, hes' b, hE, hE]
    refine hp.dkA h1 ?_ ?_
    all_goals
      clear hp h1
      intro s hp
      conv => whnf
      refine Sm.ofW ?_
      conv => whnf
      exact ⟨(i + 1, E', (κL', κC', K'), ls', es'), by (show l.length - (i + 1) < l.length - i); omega, subK_ok (by refine ⟨rfl, rfl, rfl, rfl, rfl, rfl, rfl, congrArg (fun x => some (Value.int .i64 x)) (show IntKind.i64.wrap ((i : Int) + 1) = ((i + 1 : Nat) : Int) by rw [wi64 (by omega) (by omega)]; omega), trivial⟩), by (show i + 1 ≤ l.length); omega,
        (by replace hp := hp.as (a := bookA (.pointer (some ⟨b0, 0, none⟩)) kb mb E') (a' := bookA (.pointer (some ⟨b0, 0, none⟩)) kb mb E') (by repeat (first | exact Rm.here | apply Rm.there)) (fun h => h) (fun j hj => hj); exact hp.pik (by repeat (first | exact Pik.nil | exact Pik.refl _ | exact Rm.here | apply Rm.there | apply Pik.cons | apply Pik.skip))), hEE, hnd'.1, hnd'.2⟩
  · conv => whnf
    refine Sm.live [1, 2, 3, 9, 10] ?_
    conv => whnf
    clear hc hi hnd hsix
    refine Sm.seq ?_
    refine Sm.seqW ?_
    conv => whnf
    refine Sm.live [1, 2, 3, 9, 10, 13] ?_
    conv => whnf
    refine Sm.block ?_
    refine Sm.loop ?_
    refine Lp.ofS (α := Nat) (fun k => [(1, .int .i64 bend), (2, .int .i64 at_), (3, .int .i64 by_), (9, .pointer (some ⟨b0, 0, none⟩)), (10, .pointer (some ⟨p10, 0, none⟩)), (13, .int .i64 (k : Int))])
      (fun k s' => k ≤ 7 ∧ Hp (fun _ => False) s0 [slA none (.slice a l.length cp) 5 l.length (rwCells l)] [bookA (.pointer (some ⟨b0, 0, none⟩)) kb mb E, docA p10 κL κC K ls es] s') (fun k => 7 - k) ?_ 0 (subK_ok (by refine ⟨rfl, rfl, rfl, rfl, rfl, rfl, trivial⟩)) ⟨by decide, hp⟩
    clear hp
    rintro k s ⟨hk, hp⟩
    refine Sm.seq ?_
    refine Sm.seqW ?_
    conv => whnf
    refine Sm.live [1, 2, 3, 9, 10, 13, 46] ?_
    conv => whnf
    refine Sm.ofW ?_
    conv => whnf
    refine Br.mk (fun hq => ?_) (fun hq => ?_)
    · have hq : k < 7 := by have : (k : Int) < 7 := of_decide_eq_true hq; omega
      conv => whnf
      refine Sm.seq ?_
      refine Sm.block ?_
      refine Sm.seqW ?_
      conv => whnf
      refine hp.call (label_spec hp.wf (show inR (k : Int) by unfold inR; omega)) ?_
      clear hp
      rintro _ s rfl hp _
      conv => whnf
      generalize hN : lab (k : Int) = N
      refine hp.ofB (by repeat (first | exact Has.here | apply Has.there | (apply Has.swap; repeat (first | exact HasR.here | apply HasR.there)))) _ ?_
      clear hp
      intro κx wx s hp _
      obtain ⟨ax, cx, rfl⟩ := (hp.slF (by repeat (first | exact Rm.here | apply Rm.there))).shape
      conv => whnf
      refine hp.alloc (cs := (chCells Ch.zero (.slice none 0 0))) (e := 4) rfl rfl rfl rfl rfl ?_
      clear hp
      intro p14 s hp _
      conv => whnf
      refine hp.storeW (vs := (chCells (chOf E N) (.slice ax (chOf E N).last.length cx))) rfl (by repeat (first | exact Rm.here | apply Rm.there)) (by first | exact C2_same _ _ _ _ | exact C4_same _ _ _ _ _ _ _ _ | exact Dc_same _ _ | rfl) rfl rfl rfl ?_
      clear hp
      intro s hp _
      conv => whnf
      refine Sm.live [1, 2, 3, 9, 10, 13, 14] ?_
      conv => whnf
      have book := hp.book (E := E) (kb := kb) (mb := mb) (p := .pointer (some ⟨b0, 0, none⟩)) (by repeat (first | exact Has.here | apply Has.there | (apply Has.swap; repeat (first | exact HasR.here | apply HasR.there))))
      obtain ⟨κY, -, -, hY8, hYok⟩ := book.sl N
      clear book
      obtain ⟨m, em, hm⟩ : ∃ m : Nat, IntKind.u64.wrap by_ = (m : Int) ∧ m < 18446744073709551616 := by
        refine ⟨(IntKind.u64.wrap by_).toNat, ?_, ?_⟩
        · rw [wrap_u64i]; omega
        · rw [wrap_u64i]; omega
      obtain ⟨hh, ehh⟩ : ∃ hh : BitVec 64, (hh.toNat : Int) = (m : Int) := ⟨BitVec.ofNat 64 m, by rw [BitVec.toNat_ofNat, Nat.mod_eq_of_lt hm]⟩
      rw [← ehh] at em
      refine Sm.seq ?_
      refine Sm.seqC (fun e L' s' => e = .normal ∧ Hp (fun _ => False) s0 [slA none (.slice a l.length cp) 5 l.length (rwCells l)] [blkA p14 p14 (chCells (chOf E N) (.slice ax (chOf E N).last.length cx)) 4, onA κx (.slice ax (chOf E N).last.length cx) 4 (chOf E N).last.length (rcCells (chOf E N).last), bookA (.pointer (some ⟨b0, 0, none⟩)) kb mb E, docA p10 κL κC K ls es] s' ∧ Sub [(1, .int .i64 bend), (2, .int .i64 at_), (3, .int .i64 by_), (9, .pointer (some ⟨b0, 0, none⟩)), (10, .pointer (some ⟨p10, 0, none⟩)), (13, .int .i64 (k : Int)), (14, .pointer (some ⟨p14, 0, none⟩)), (78, .bool false)] L') ?_ ?_
      · conv => whnf
        refine hp.loadA (l := (chCells (chOf E N) (.slice ax (chOf E N).last.length cx))) (by repeat (first | exact Has.here | apply Has.there | (apply Has.swap; repeat (first | exact HasR.here | apply HasR.there)))) rfl (by rfl) rfl rfl ?_
        conv => whnf
        refine (convert_spec hp.wf (c := chOf E N) (hp.slF (κ := κx) (v := .slice ax (chOf E N).last.length cx) (by repeat (first | exact Rm.here | apply Rm.there))) (by omega)).mono ?_
        rintro _ s1 ⟨k1, w, rfl, o⟩
        obtain ⟨κw, hp⟩ := hp.on k1 o
        clear k1 o
        conv => whnf
        refine hp.call (label_spec hp.wf (show inR (k : Int) by unfold inR; omega)) ?_
        clear hp
        rintro _ s rfl hp _
        rw [hN]
        conv => whnf
        have hD : Doc s p10 κL κC K ls es := hp.okF (docA p10 κL κC K ls es) (by simp)
        refine hp.call (dof_spec hp.wf hD (by omega) N) ?_
        clear hp hD
        rintro _ s rfl hp _
        have hD : Doc s p10 κL κC K ls es := hp.okF (docA p10 κL κC K ls es) (by simp)
        obtain ⟨κd, hd⟩ := hD.sr N
        conv => whnf
        refine (same_spec hp.wf (c := chOf E N) (d := (docOf ls es N).1) (hp.slF (κ := κw) (v := w) (by repeat (first | exact Rm.here | apply Rm.there))) hd (by omega)).mono ?_
        rintro _ s1 ⟨k1, b, rfl, hb⟩
        obtain rfl : b = true := hb.2 (hE N)
        replace hp := hp.k0 k1
        clear k1 hD hd
        conv => whnf
        repeat (first | (refine Br.yes (by first | with_reducible rfl | with_reducible exact beq_self_eq_true _ | rfl) ?_; conv => whnf) | (refine Br.no (by first | with_reducible rfl | with_reducible exact bne_self_eq_false _ | rfl) ?_; conv => whnf))
        have hrok : (Rc.mk bend at_ by_ ⟨#[]⟩).ok := ⟨hbe, hat, hby, by show ([] : List UInt8).length ≤ _; decide⟩
        refine hp.call (record_spec hp.wf ⟨0, ⟨bend, at_, by_, ⟨#[]⟩⟩⟩) ?_
        clear hp
        rintro _ s rfl hp _
        conv => whnf
        repeat (first | (refine Br.yes (by first | with_reducible rfl | with_reducible exact beq_self_eq_true _ | rfl) ?_; conv => whnf) | (refine Br.no (by first | with_reducible rfl | with_reducible exact bne_self_eq_false _ | rfl) ?_; conv => whnf))
        rw [em]
        refine hp.call (link_spec hp.wf hh hrok) ?_
        clear hp
        rintro _ s rfl hp _
        conv => whnf
        repeat (first | (refine Br.yes (by first | with_reducible rfl | with_reducible exact beq_self_eq_true _ | rfl) ?_; conv => whnf) | (refine Br.no (by first | with_reducible rfl | with_reducible exact bne_self_eq_false _ | rfl) ?_; conv => whnf))
        rw [em]
        refine hp.call (rlink_spec hp.wf hh hrok) ?_
        clear hp
        rintro _ s rfl hp _
        conv => whnf
        repeat (first | (refine Br.yes (by first | with_reducible rfl | with_reducible exact beq_self_eq_true _ | rfl) ?_; conv => whnf) | (refine Br.no (by first | with_reducible rfl | with_reducible exact bne_self_eq_false _ | rfl) ?_; conv => whnf))
        exact ⟨rfl, hp.pik (by repeat (first | exact Pik.nil | exact Pik.refl _ | exact Rm.here | apply Rm.there | apply Pik.cons | apply Pik.skip)), subK_ok ⟨rfl, rfl, rfl, rfl, rfl, rfl, rfl, by first | rfl | exact congrArg (fun x => some (Value.bool x)) (bne_self_eq_false _), trivial⟩⟩
      clear hp
      rintro e L' s ⟨rfl, hp, hs⟩
      refine Sm.weak _ hs ?_
      clear hs
      refine Sm.ofW ?_
      conv => whnf
      repeat (first | (refine Br.yes (by first | with_reducible rfl | with_reducible exact beq_self_eq_true _ | rfl) ?_; conv => whnf) | (refine Br.no (by first | with_reducible rfl | with_reducible exact bne_self_eq_false _ | rfl) ?_; conv => whnf))
      refine Sm.live [1, 2, 3, 9, 10, 13, 14] ?_
      conv => whnf
      refine Sm.seq ?_
      refine Sm.seqW ?_
      conv => whnf
      refine (pick_spec _ hbe (m := 8) (by decide) (by decide)).mono ?_
      rintro _ s1 ⟨h1, rfl⟩
      obtain rfl := h1.symm
      conv => whnf
      refine Sm.live [1, 2, 3, 9, 10, 13, 14, 80] ?_
      conv => whnf
      refine Sm.mono (Q := fun e L' s' => e = .normal ∧ (∃ c v κ, c.last.length ≤ 8 ∧ (∀ q ∈ c.last, q.ok) ∧ Hp (fun _ => False) s0 [slA none (.slice a l.length cp) 5 l.length (rwCells l)] [slA κ v 4 c.last.length (rcCells c.last), blkA p14 p14 (chCells c v) 4, bookA (.pointer (some ⟨b0, 0, none⟩)) kb mb E, docA p10 κL κC K ls es] s') ∧ Sub [(1, .int .i64 bend), (2, .int .i64 at_), (3, .int .i64 by_), (9, .pointer (some ⟨b0, 0, none⟩)), (10, .pointer (some ⟨p10, 0, none⟩)), (13, .int .i64 (k : Int)), (14, .pointer (some ⟨p14, 0, none⟩))] L') ?_ ?_
      · generalize hcc : chOf E N = c at *
        refine Sm.block ?_
        refine Sm.ofW ?_
        conv => whnf
        by_cases h1 : bend % 8 = 1
        · refine Br.yes (beq_iff_eq.2 h1) ?_
          conv => whnf
          (refine hp.store (by repeat (first | exact Rm.here | apply Rm.there)) (by first | exact of_decide_eq_true rfl | (simp; done) | (simp; omega) | omega) rfl rfl rfl rfl ?_; intro s hp _; conv => whnf)
          replace hp := hp.as (a := onA κx (.slice ax c.last.length cx) 4 c.last.length (rcCells c.last)) (a' := slA κx (.slice ax c.last.length cx) 4 c.last.length (rcCells c.last)) (by repeat (first | exact Rm.here | apply Rm.there)) (fun h => OwnO.sl h) (fun j hj => hj)
          exact ⟨rfl, ⟨⟨by_, c.head, c.last, c.base⟩, .slice ax c.last.length cx, κx, hY8, hYok, hp.pik (by repeat (first | exact Pik.nil | exact Pik.refl _ | exact Rm.here | apply Rm.there | apply Pik.cons | apply Pik.skip))⟩, subK_ok ⟨rfl, rfl, rfl, rfl, rfl, rfl, rfl, trivial⟩⟩
        refine Br.no (beq_eq_false_iff_ne.2 h1) ?_
        conv => whnf
        by_cases h2 : bend % 8 = 2
        · refine Br.yes (beq_iff_eq.2 h2) ?_
          conv => whnf
          (refine hp.load (by repeat (first | exact Has.here | apply Has.there | (apply Has.swap; repeat (first | exact HasR.here | apply HasR.there)))) (by rfl) rfl rfl rfl ?_; conv => whnf)
          rw [em, xor_u64 c.head.isLt hh.isLt, ← BitVec.toNat_xor]
          (refine hp.store (by repeat (first | exact Rm.here | apply Rm.there)) (by first | exact of_decide_eq_true rfl | (simp; done) | (simp; omega) | omega) rfl rfl rfl rfl ?_; intro s hp _; conv => whnf)
          replace hp := hp.as (a := onA κx (.slice ax c.last.length cx) 4 c.last.length (rcCells c.last)) (a' := slA κx (.slice ax c.last.length cx) 4 c.last.length (rcCells c.last)) (by repeat (first | exact Rm.here | apply Rm.there)) (fun h => OwnO.sl h) (fun j hj => hj)
          exact ⟨rfl, ⟨⟨c.count, c.head ^^^ hh, c.last, c.base⟩, .slice ax c.last.length cx, κx, hY8, hYok, hp.pik (by repeat (first | exact Pik.nil | exact Pik.refl _ | exact Rm.here | apply Rm.there | apply Pik.cons | apply Pik.skip))⟩, subK_ok ⟨rfl, rfl, rfl, rfl, rfl, rfl, rfl, trivial⟩⟩
        refine Br.no (beq_eq_false_iff_ne.2 h2) ?_
        conv => whnf
        by_cases h3 : bend % 8 = 3
        · refine Br.yes (beq_iff_eq.2 h3) ?_
          conv => whnf
          (refine hp.load (by repeat (first | exact Has.here | apply Has.there | (apply Has.swap; repeat (first | exact HasR.here | apply HasR.there)))) (by rfl) rfl rfl rfl ?_; conv => whnf)
          rw [em, xor_u64 c.base.isLt hh.isLt, ← BitVec.toNat_xor]
          (refine hp.store (by repeat (first | exact Rm.here | apply Rm.there)) (by first | exact of_decide_eq_true rfl | (simp; done) | (simp; omega) | omega) rfl rfl rfl rfl ?_; intro s hp _; conv => whnf)
          replace hp := hp.as (a := onA κx (.slice ax c.last.length cx) 4 c.last.length (rcCells c.last)) (a' := slA κx (.slice ax c.last.length cx) 4 c.last.length (rcCells c.last)) (by repeat (first | exact Rm.here | apply Rm.there)) (fun h => OwnO.sl h) (fun j hj => hj)
          exact ⟨rfl, ⟨⟨c.count, c.head, c.last, c.base ^^^ hh⟩, .slice ax c.last.length cx, κx, hY8, hYok, hp.pik (by repeat (first | exact Pik.nil | exact Pik.refl _ | exact Rm.here | apply Rm.there | apply Pik.cons | apply Pik.skip))⟩, subK_ok ⟨rfl, rfl, rfl, rfl, rfl, rfl, rfl, trivial⟩⟩
        refine Br.no (beq_eq_false_iff_ne.2 h3) ?_
        conv => whnf
        by_cases h4 : bend % 8 = 4
        · refine Br.yes (beq_iff_eq.2 h4) ?_
          conv => whnf
          (refine hp.load (by repeat (first | exact Has.here | apply Has.there | (apply Has.swap; repeat (first | exact HasR.here | apply HasR.there)))) (by rfl) rfl rfl rfl ?_; conv => whnf)
          refine Br.mk (fun hpos => ?_) (fun hpos => ?_)
          · have hpos : 0 < c.last.length := by have := of_decide_eq_true hpos; omega
            obtain ⟨kx, bx, eX, _, hp⟩ := hp.onBlk (κ := κx) (e := 4) (n := c.last.length) (v := .slice ax c.last.length cx) (cs := rcCells c.last) (by repeat (first | exact Rm.here | apply Rm.there)) (by omega)
            injection eX with eX1 _ eX2
            subst eX1 eX2
            conv => whnf
            refine ⟨[0, 1, 0, 0, 8, 24, 60, 0, 255, 511, 1023], by decide +kernel, by decide +kernel, ?_⟩
            conv => whnf
            (refine hp.load (by repeat (first | exact Has.here | apply Has.there | (apply Has.swap; repeat (first | exact HasR.here | apply HasR.there)))) (by rfl) rfl rfl rfl ?_; conv => whnf)
            (refine hp.load (by repeat (first | exact Has.here | apply Has.there | (apply Has.swap; repeat (first | exact HasR.here | apply HasR.there)))) (by rfl) rfl rfl rfl ?_; conv => whnf)
            refine (pick_spec _ hat (m := (c.last.length : Int)) (by omega) (by omega)).mono ?_
            rintro _ s1 ⟨h1, rfl⟩
            obtain rfl := h1.symm
            conv => whnf
            refine hp.dkS ?_
            conv => whnf
            obtain ⟨n, en, hn⟩ : ∃ n : Nat, at_ % (c.last.length : Int) = (n : Int) ∧ n < c.last.length := by
              have g1 := Int.emod_nonneg at_ (show (c.last.length : Int) ≠ 0 by omega)
              have g2 := Int.emod_lt_of_pos at_ (show (0 : Int) < (c.last.length : Int) by omega)
              exact ⟨(at_ % (c.last.length : Int)).toNat, by omega, by omega⟩
            rw [en]
            refine Om.of _ (index_rcB hn) ?_
            conv => whnf
            have hwho := rcCells_who c.last n hn by_
            refine hp.rst.store (off := n * 4 + 0) (C := rcCells c.last) (v := .int .i64 by_) (by repeat (first | exact Rm.here | apply Rm.there)) (by rw [rcCells_length]; omega) rfl rfl rfl rfl ?_
            intro s1 h1 l1
            conv => whnf
            refine hp.dkW h1 l1 ?_
            clear hp h1 l1
            intro s hp
            rw [hwho] at hp
            conv => whnf
            have e7 : (c.last.set n { c.last[n] with who := by_ }).length = c.last.length := List.length_set
            generalize hlst : c.last.set n { c.last[n] with who := by_ } = lst at *
            have hok9 : ∀ q ∈ lst, q.ok := fun q hq => by
              rw [← hlst] at hq
              rcases List.mem_or_eq_of_mem_set hq with g | rfl
              · exact hYok q g
              · have := hYok c.last[n] (List.getElem_mem hn)
                exact ⟨hby, this.verb, this.what, this.text⟩
            replace hp := hp.as (a := blkA kx bx (rcCells lst) 4) (a' := slA (some kx) (.slice (some ⟨bx, 0, none⟩) c.last.length c.last.length) 4 lst.length (rcCells lst)) (by repeat (first | exact Rm.here | apply Rm.there)) (fun h => OwnO.sl ⟨.inr ⟨kx, rfl, bx, by rw [e7], h, rcCells_length lst⟩⟩) (fun j hj => by injection hj with hj; exact hj.symm)
            exact ⟨rfl, ⟨⟨c.count, c.head, lst, c.base⟩, .slice (some ⟨bx, 0, none⟩) c.last.length c.last.length, some kx, by show lst.length ≤ 8; omega, hok9, hp.pik (by repeat (first | exact Pik.nil | exact Pik.refl _ | exact Rm.here | apply Rm.there | apply Pik.cons | apply Pik.skip))⟩, subK_ok ⟨rfl, rfl, rfl, rfl, rfl, rfl, rfl, trivial⟩⟩
          · conv => whnf
            replace hp := hp.as (a := onA κx (.slice ax c.last.length cx) 4 c.last.length (rcCells c.last)) (a' := slA κx (.slice ax c.last.length cx) 4 c.last.length (rcCells c.last)) (by repeat (first | exact Rm.here | apply Rm.there)) (fun h => OwnO.sl h) (fun j hj => hj)
            exact ⟨rfl, ⟨c, .slice ax c.last.length cx, κx, hY8, hYok, hp.pik (by repeat (first | exact Pik.nil | exact Pik.refl _ | exact Rm.here | apply Rm.there | apply Pik.cons | apply Pik.skip))⟩, subK_ok ⟨rfl, rfl, rfl, rfl, rfl, rfl, rfl, trivial⟩⟩
        refine Br.no (beq_eq_false_iff_ne.2 h4) ?_
        conv => whnf
        by_cases h5 : bend % 8 = 5
        · refine Br.yes (beq_iff_eq.2 h5) ?_
          conv => whnf
          refine ⟨[0, 1, 0, 0, 8, 24, 56, 124, 255, 511, 1023], by decide +kernel, by decide +kernel, ?_⟩
          conv => whnf
          (refine hp.load (by repeat (first | exact Has.here | apply Has.there | (apply Has.swap; repeat (first | exact HasR.here | apply HasR.there)))) (by rfl) rfl rfl rfl ?_; conv => whnf)
          (refine hp.load (by repeat (first | exact Has.here | apply Has.there | (apply Has.swap; repeat (first | exact HasR.here | apply HasR.there)))) (by rfl) rfl rfl rfl ?_; conv => whnf)
          have e1 : IntKind.i64.wrap ((c.last.length : Int) + 1) = ((c.last.length + 1 : Nat) : Int) := by rw [wi64 (by omega) (by omega)]; omega
          rw [e1]
          refine (pick_spec _ hat (m := ((c.last.length + 1 : Nat) : Int)) (by omega) (by omega)).mono ?_
          rintro _ s1 ⟨h1, rfl⟩
          obtain rfl := h1.symm
          conv => whnf
          refine hp.dkS ?_
          conv => whnf
          obtain ⟨n, en, hn⟩ : ∃ n : Nat, at_ % ((c.last.length + 1 : Nat) : Int) = (n : Int) ∧ n ≤ c.last.length := by
            have g1 := Int.emod_nonneg at_ (show ((c.last.length + 1 : Nat) : Int) ≠ 0 by omega)
            have g2 := Int.emod_lt_of_pos at_ (show (0 : Int) < ((c.last.length + 1 : Nat) : Int) by omega)
            exact ⟨(at_ % ((c.last.length + 1 : Nat) : Int)).toNat, by omega, by omega⟩
          rw [en]
          obtain ⟨w5, e5, o5⟩ := slice_sl R52 (hp.slF (κ := κx) (v := .slice ax c.last.length cx) (n := c.last.length) (by repeat (first | exact Rm.here | apply Rm.there))) .i64 .i64 none (some n) (by simp) (by simp; omega)
          refine Om.of w5 e5 ?_
          conv => whnf
          obtain ⟨a5, c5, rfl⟩ := o5.shape
          have e7 : (c.last.take n).length = n := by rw [List.length_take]; omega
          have o6 : Sl s κx (.slice a5 n c5) 4 (c.last.take n).length (rcCells (c.last.take n)) := by
            have o7 : Sl s κx (.slice a5 n c5) 4 n (((rcCells c.last).drop (0 * 4)).take (n * 4)) := o5
            rw [Nat.zero_mul, List.drop_zero, rcCells_take] at o7
            rw [e7]; exact o7
          replace hp := hp.as (a := onA κx (.slice ax c.last.length cx) 4 c.last.length (rcCells c.last)) (a' := slA κx (.slice a5 n c5) 4 (c.last.take n).length (rcCells (c.last.take n))) (by repeat (first | exact Rm.here | apply Rm.there)) (fun _ => o6) (fun j hj => hj)
          (refine hp.rst.store (by repeat (first | exact Rm.here | apply Rm.there)) (by first | exact of_decide_eq_true rfl | (simp; done) | (simp; omega) | omega) rfl rfl rfl rfl ?_; intro s1 h1 l1; (conv => whnf); refine hp.dkW h1 l1 ?_; clear h1 l1; intro s hp; conv => whnf)
          replace hp := hp.as (a := slA κx (.slice a5 n c5) 4 (c.last.take n).length (rcCells (c.last.take n))) (a' := slA κx (.slice a5 n c5) 4 (c.last.take n).length (rcCells (c.last.take n))) (by repeat (first | exact Rm.here | apply Rm.there)) (fun h => h) (fun j hj => hj)
          exact ⟨rfl, ⟨⟨c.count, c.head, c.last.take n, c.base⟩, .slice a5 n c5, κx, by show (c.last.take n).length ≤ 8; omega, fun q hq => hYok q (List.mem_of_mem_take hq), hp.pik (by repeat (first | exact Pik.nil | exact Pik.refl _ | exact Rm.here | apply Rm.there | apply Pik.cons | apply Pik.skip))⟩, subK_ok ⟨rfl, rfl, rfl, rfl, rfl, rfl, rfl, trivial⟩⟩
        refine Br.no (beq_eq_false_iff_ne.2 h5) ?_
        conv => whnf
        replace hp := hp.as (a := onA κx (.slice ax c.last.length cx) 4 c.last.length (rcCells c.last)) (a' := slA κx (.slice ax c.last.length cx) 4 c.last.length (rcCells c.last)) (by repeat (first | exact Rm.here | apply Rm.there)) (fun h => OwnO.sl h) (fun j hj => hj)
        exact ⟨rfl, ⟨c, .slice ax c.last.length cx, κx, hY8, hYok, hp.pik (by repeat (first | exact Pik.nil | exact Pik.refl _ | exact Rm.here | apply Rm.there | apply Pik.cons | apply Pik.skip))⟩, subK_ok ⟨rfl, rfl, rfl, rfl, rfl, rfl, rfl, trivial⟩⟩
      clear hp
      rintro e L' s ⟨rfl, ⟨c, v, κ, hc8, hcok, hp⟩, hs⟩
      refine Sm.weak _ hs ?_
      clear hs
      obtain ⟨av, cv', rfl⟩ := (hp.okF (slA κ v 4 c.last.length (rcCells c.last)) (by simp) : Sl s κ v 4 _ _).shape
      refine Sm.seq ?_
      refine Sm.ofW ?_
      conv => whnf
      refine ⟨[0, 1, 0, 7, 15, 31], by decide +kernel, by decide +kernel, ?_⟩
      conv => whnf
      refine hp.loadA (l := (chCells c (.slice av c.last.length cv'))) (by repeat (first | exact Has.here | apply Has.there | (apply Has.swap; repeat (first | exact HasR.here | apply HasR.there)))) rfl (by rfl) rfl rfl ?_
      conv => whnf
      refine hp.rst.call (right_spec hp.rst.wf (c := c) ((slA κ (.slice av c.last.length cv') 4 c.last.length (rcCells c.last)).lo s _ (hp.okF (slA κ (.slice av c.last.length cv') 4 c.last.length (rcCells c.last)) (by simp))) hcok (by omega)) ?_
      rintro _ s1 rfl h1 k1
      conv => whnf
      refine hp.dkN h1 k1 ?_
      clear hp h1 k1
      intro s hp
      conv => whnf
      refine hp.loadA (l := (chCells c (.slice av c.last.length cv'))) (by repeat (first | exact Has.here | apply Has.there | (apply Has.swap; repeat (first | exact HasR.here | apply HasR.there)))) rfl (by rfl) rfl rfl ?_
      conv => whnf
      refine (convert_spec hp.rst.wf (c := c) (hp.rst.okF (slA κ (.slice av c.last.length cv') 4 c.last.length (rcCells c.last)) (by simp)) (by omega)).mono ?_
      rintro _ s1 ⟨k1, w, rfl, o⟩
      obtain ⟨κw, h1⟩ := hp.rst.on k1 o
      conv => whnf
      refine hp.dkN h1 k1 ?_
      clear hp h1 k1 o
      intro s hp
      conv => whnf
      refine hp.rst.call (rright_spec hp.rst.wf (c := c) (hp.rst.slF (κ := κw) (v := w) (n := c.last.length) (by repeat (first | exact Rm.here | apply Rm.there))) hcok (by omega)) ?_
      rintro _ s1 rfl h1 k1
      conv => whnf
      refine hp.dkN h1 k1 ?_
      clear hp h1 k1
      intro s hp
      conv => whnf
      generalize rightF c = rb
      refine Om.of (.bool false) (by cases rb <;> rfl) ?_
      conv => whnf
      refine Sm.ofW ?_
      conv => whnf
      repeat (first | (refine Br.yes (by first | with_reducible rfl | with_reducible exact beq_self_eq_true _ | rfl) ?_; conv => whnf) | (refine Br.no (by first | with_reducible rfl | with_reducible exact bne_self_eq_false _ | rfl) ?_; conv => whnf))
      refine Sm.ofW ?_
      conv => whnf
      exact ⟨k + 1, by (show 7 - (k + 1) < 7 - k); omega, subK_ok (by refine ⟨rfl, rfl, rfl, rfl, rfl, congrArg (fun x => some (Value.int .i64 x)) (show IntKind.i64.wrap ((k : Int) + 1) = ((k + 1 : Nat) : Int) by rw [wi64 (by omega) (by omega)]; omega), trivial⟩), by omega, hp.pik (by repeat (first | exact Pik.nil | exact Pik.refl _ | exact Rm.here | apply Rm.there | apply Pik.cons | apply Pik.skip))⟩
    · conv => whnf
      refine Sm.seqW ?_
      conv => whnf
      refine Sm.ofW ?_
      conv => whnf
      exact ⟨rfl⟩
end Go.Ev
end
