/- Several texts in one: what the law's text leans on, one behind the other. No condition but those that each theorem names. -/
import Derived.Test.YtmhfkejbahacoaaGreatDoorGViewHolds3
/- Views: Holds. No condition. -/
noncomputable section
namespace Go.Ev
open Go.Proofs
variable [Lk]
set_option linter.unusedSectionVars false
set_option linter.unusedVariables false
set_option maxRecDepth 100000

def atB (out : List Bool) (k : Nat) (p : Int) : Bool := decide (0 ≤ p) && (decide (p < (k : Int)) && out.getD p.toNat false)
def nodeB (r : Rv) (out : List Bool) (k : Nat) (n : Qn) : Bool := if n.kind = 1 then atB out k n.a && atB out k n.b else if n.kind = 2 then atB out k n.a || atB out k n.b else if n.kind = 3 then !(atB out k n.a) else if n.kind = 4 then testedF n r else false
/-- Which nodes a row holds: the first so many. -/
def heldN (r : Rv) (l : List Qn) : Nat → List Bool
  | 0 => []
  | k + 1 => heldN r l k ++ [nodeB r (heldN r l k) k (l.getD k Qn.zero)]
theorem heldN_len (r : Rv) (l : List Qn) : ∀ k, (heldN r l k).length = k
  | 0 => rfl
  | k + 1 => by rw [heldN, List.length_append, heldN_len r l k]; rfl
def holdsF (root : Int) (l : List Qn) (r : Rv) : Bool := if root = -1 then true else decide (0 ≤ root) && (decide (root < (l.length : Int)) && (heldN r l l.length).getD root.toNat false)
def bC (h : List Bool) (N : Nat) : List Value := (h ++ List.replicate (N - h.length) false).map Value.bool
theorem bC_len {h : List Bool} {N : Nat} (g : h.length ≤ N) : (bC h N).length = N := by unfold bC; simp; omega
theorem bC_set {h : List Bool} {N : Nat} (g : h.length < N) (v : Bool) : (bC h N).set (0 + h.length * 1) (.bool v) = bC (h ++ [v]) N := by
  unfold bC
  obtain ⟨m, hm⟩ : ∃ m, N - h.length = m + 1 := ⟨N - h.length - 1, by omega⟩
  rw [List.length_append, List.length_singleton, show N - (h.length + 1) = m by omega, hm, List.replicate_succ, Nat.zero_add, Nat.mul_one]
  simp
theorem bC_next {h : List Bool} {N : Nat} (g : h.length < N) : bC h N = bC (h ++ [false]) N := by
  unfold bC
  obtain ⟨m, hm⟩ : ∃ m, N - h.length = m + 1 := ⟨N - h.length - 1, by omega⟩
  rw [List.length_append, List.length_singleton, show N - (h.length + 1) = m by omega, hm, List.replicate_succ]
  simp
theorem bC_at {h : List Bool} {N p : Nat} (g : p < h.length) : (bC h N)[p]? = some (.bool (h.getD p false)) := by
  unfold bC
  rw [List.getElem?_map, List.getElem?_append_left g, List.getElem?_eq_getElem g]
  simp [List.getD_eq_getElem?_getD, List.getElem?_eq_getElem g]
theorem BL : SlT Tryz.prog 137 4 1 1 (.bool false) := ⟨Tryz.underlying137, ⟨_, rfl, rfl, rfl, rfl⟩, rfl, rfl, by decide, by decide⟩
theorem held1_spec {z : St} (wf : WF z) {p6 p5 b N k : Nat} {h : List Bool} (hb6 : Blk z p6 p6 [.int .i64 (k : Int)] 1) (hb5 : Blk z p5 p5 [.slice (some ⟨b, 0, none⟩) N N] 1) (hb : Blk z b b (bC h N) 1) (hk : k = h.length) (hN : h.length ≤ N) (p : Int) :
    Cw Tryz.prog 117 [.int .i64 p, .pointer (some ⟨p6, 0, none⟩), .pointer (some ⟨p5, 0, none⟩)] z fun v s' => K0 z s' ∧ v = .bool (atB h k p) := by
  have hp : Hp (fun _ => False) z [blkA p6 p6 [.int .i64 (k : Int)] 1, blkA p5 p5 [.slice (some ⟨b, 0, none⟩) N N] 1, blkA b b (bC h N) 1] [] z := Hp.start _ wf _ (by simp; exact ⟨hb6, hb5, hb⟩)
  refine Cw.enterS Tryz.func117 rfl rfl ?_
  have ha : atB h k p = (decide (0 ≤ p) && (decide (p < (k : Int)) && h.getD p.toNat false)) := rfl
  refine Sm.seqW ?_
  conv => whnf
  refine Sm.live [0, 1, 2] ?_
  conv => whnf
  refine Sm.seqW ?_
  conv => whnf
  by_cases h0 : 0 ≤ p
  · have q0 : decide (p ≥ 0) = true := decide_eq_true h0
    repeat (first | (refine Br.yes q0 ?_; conv => whnf) | (first | (refine Br.yes (by first | with_reducible rfl | with_reducible exact beq_self_eq_true _ | rfl) ?_; conv => whnf) | (refine Br.no (by first | with_reducible rfl | with_reducible exact bne_self_eq_false _ | rfl) ?_; conv => whnf)))
    refine hp.load (v := .int .i64 (k : Int)) (by repeat (first | exact Has.here | apply Has.there | (apply Has.swap; repeat (first | exact HasR.here | apply HasR.there)))) (by rfl) rfl rfl rfl ?_
    conv => whnf
    by_cases h1 : p < (k : Int)
    · have q1 : decide (p < (k : Int)) = true := decide_eq_true h1
      repeat (first | (refine Br.yes q0 ?_; conv => whnf) | (refine Br.yes q1 ?_; conv => whnf) | (first | (refine Br.yes (by first | with_reducible rfl | with_reducible exact beq_self_eq_true _ | rfl) ?_; conv => whnf) | (refine Br.no (by first | with_reducible rfl | with_reducible exact bne_self_eq_false _ | rfl) ?_; conv => whnf)))
      refine hp.load (v := .slice (some ⟨b, 0, none⟩) N N) (by repeat (first | exact Has.here | apply Has.there | (apply Has.swap; repeat (first | exact HasR.here | apply HasR.there)))) (by rfl) rfl rfl rfl ?_
      conv => whnf
      repeat (first | (refine Br.yes q0 ?_; conv => whnf) | (refine Br.yes q1 ?_; conv => whnf) | (first | (refine Br.yes (by first | with_reducible rfl | with_reducible exact beq_self_eq_true _ | rfl) ?_; conv => whnf) | (refine Br.no (by first | with_reducible rfl | with_reducible exact bne_self_eq_false _ | rfl) ?_; conv => whnf)))
      obtain ⟨q, hq, hqk⟩ : ∃ q : Nat, p = (q : Int) ∧ q < k := ⟨p.toNat, by omega, by omega⟩
      subst hq
      have hsl : Sl z (some b) (.slice (some ⟨b, 0, none⟩) N N) 1 N (bC h N) := hp.blkSl (m := (by repeat (first | exact Has.here | apply Has.there | (apply Has.swap; repeat (first | exact HasR.here | apply HasR.there))) : Has (blkA b b (bC h N) 1) _ _)) (by rw [bC_len hN, Nat.mul_one])
      obtain ⟨pp, y, e1, e2, e3, _, rfl⟩ := index_sl BL Tryz.underlying4 rfl hsl .i64 (i := q) (by omega)
      obtain rfl : y = .bool (h.getD q false) := by rw [bC_at (by omega)] at e2; exact (Option.some.inj e2).symm
      refine Om.of _ (e1) ?_
      conv => whnf
      repeat (first | (refine Br.yes q0 ?_; conv => whnf) | (refine Br.yes q1 ?_; conv => whnf) | (first | (refine Br.yes (by first | with_reducible rfl | with_reducible exact beq_self_eq_true _ | rfl) ?_; conv => whnf) | (refine Br.no (by first | with_reducible rfl | with_reducible exact bne_self_eq_false _ | rfl) ?_; conv => whnf)))
      refine Om.of _ (e3) ?_
      conv => whnf
      repeat (first | (refine Br.yes q0 ?_; conv => whnf) | (refine Br.yes q1 ?_; conv => whnf) | (first | (refine Br.yes (by first | with_reducible rfl | with_reducible exact beq_self_eq_true _ | rfl) ?_; conv => whnf) | (refine Br.no (by first | with_reducible rfl | with_reducible exact bne_self_eq_false _ | rfl) ?_; conv => whnf)))
      refine Sm.live [4] ?_
      conv => whnf
      refine Sm.ofW ?_
      conv => whnf
      rw [ha, decide_eq_true h0, decide_eq_true h1]
      exact ⟨hp.fr, rfl⟩
    · have q1 : decide (p < (k : Int)) = false := decide_eq_false h1
      repeat (first | (refine Br.yes q0 ?_; conv => whnf) | (refine Br.no q1 ?_; conv => whnf) | (first | (refine Br.yes (by first | with_reducible rfl | with_reducible exact beq_self_eq_true _ | rfl) ?_; conv => whnf) | (refine Br.no (by first | with_reducible rfl | with_reducible exact bne_self_eq_false _ | rfl) ?_; conv => whnf)))
      refine Sm.live [4] ?_
      conv => whnf
      refine Sm.ofW ?_
      conv => whnf
      rw [ha, decide_eq_true h0, decide_eq_false h1]
      exact ⟨hp.fr, by first | rfl | exact congrArg Value.bool q1⟩
  · have q0 : decide (p ≥ 0) = false := decide_eq_false h0
    repeat (first | (refine Br.no q0 ?_; conv => whnf) | (first | (refine Br.yes (by first | with_reducible rfl | with_reducible exact beq_self_eq_true _ | rfl) ?_; conv => whnf) | (refine Br.no (by first | with_reducible rfl | with_reducible exact bne_self_eq_false _ | rfl) ?_; conv => whnf)))
    refine Sm.live [4] ?_
    conv => whnf
    refine Sm.ofW ?_
    conv => whnf
    rw [ha, decide_eq_false h0]
    exact ⟨hp.fr, by first | rfl | exact congrArg Value.bool q0⟩
theorem index_qn {s : St} {κ : Option Nat} {v : Value} {l : List Qn} (h : Sl s κ v 9 l.length (ndC l)) (k : IntKind) {i : Nat} (hi : i < l.length) :
    ∃ a, evIndexAddr Tryz.prog 41 v (.int k (i : Int)) = some (.pointer (some a)) ∧ evLoad Tryz.prog 51 (.pointer (some a)) s = some l[i].val := by
  obtain ⟨a, e1, e2⟩ := index_uN QN Tryz.underlying51 h k hi
  rw [nd_at hi] at e2
  exact ⟨a, e1, e2⟩
theorem held_spec {z : St} (wf : WF z) {κ : Option Nat} {v : Value} {l : List Qn} (hv : Sl z κ v 9 l.length (ndC l)) (hl : l.length ≤ 1000) (hn : ∀ n ∈ l, n.val_.c < w128) (r : Rv) (hr : r.num) :
    Cw Tryz.prog 70 [v, r.val] z fun w s' => K0 z s' ∧ OwnN z.next s' w 1 l.length ((heldN r l l.length).map Value.bool) := by
  have hp : Hp (fun _ => False) z [slA κ v 9 l.length (ndC l)] [] z := Hp.start _ wf _ (by simp; exact hv)
  obtain ⟨a, cp, rfl⟩ := hv.shape
  refine Cw.enterS Tryz.func70 rfl rfl ?_
  refine Sm.seqW ?_
  conv => whnf
  refine hp.var (cs := r.cells) (e := 10) rfl rfl ?_
  clear hp
  intro p3 s hp _
  conv => whnf
  refine Sm.live [0, 3] ?_
  conv => whnf
  refine Sm.seqW ?_
  conv => whnf
  refine hp.mks BL rfl (n := l.length) rfl rfl (by omega) ?_
  clear hp
  intro b s hp _
  conv => whnf
  refine hp.alloc (cs := [.slice none 0 0]) (e := 1) rfl rfl rfl rfl rfl ?_
  clear hp
  intro p5 s hp _
  conv => whnf
  (refine hp.store (by repeat (first | exact Rm.here | apply Rm.there)) (by first | exact of_decide_eq_true rfl | (simp; done) | (simp; omega) | omega) rfl rfl rfl rfl ?_; intro s hp _; conv => whnf)
  refine Sm.live [0, 3, 5] ?_
  conv => whnf
  refine Sm.seq ?_
  refine Sm.seqW ?_
  conv => whnf
  refine Sm.live [3, 5, 12, 13, 14] ?_
  conv => whnf
  refine Sm.block ?_
  refine Sm.loop ?_
  have hb0 : List.replicate l.length (Value.bool false) = bC (heldN r l 0) l.length := by unfold bC; simp [heldN]
  refine Lp.ofS (α := Nat) (fun x => [(3, .pointer (some ⟨p3, 0, none⟩)), (5, .pointer (some ⟨p5, 0, none⟩)), (12, .slice a l.length cp), (13, .int .i64 (l.length : Int)), (14, .int .i64 (x : Int))])
    (fun x s' => x ≤ l.length ∧ Hp (fun _ => False) z [slA κ (.slice a l.length cp) 9 l.length (ndC l)] [blkA b b (bC (heldN r l x) l.length) 1, blkA p5 p5 [.slice (some ⟨b, 0, none⟩) l.length l.length] 1, blkA p3 p3 r.cells 10] s')
    (fun x => l.length - x) ?_ 0 (subK_ok (by refine ⟨rfl, rfl, rfl, rfl, rfl, trivial⟩)) ⟨Nat.zero_le _, by rw [← hb0]; exact hp.pik (by repeat (first | exact Pik.nil | exact Pik.refl _ | exact Rm.here | apply Rm.there | apply Pik.cons | apply Pik.skip))⟩
  clear hp hb0
  rintro k s ⟨hk, hp⟩
  refine Sm.seqW ?_
  conv => whnf
  refine Sm.seq ?_
  refine Sm.ofW ?_
  conv => whnf
  refine Br.mk (fun hq => ?_) (fun hq => ?_)
  · have hk2 : k < l.length := by have := of_decide_eq_true hq; omega
    have e6 : IntKind.i64.wrap ((k : Int) + 1) = ((k + 1 : Nat) : Int) := by rw [wi64 (by omega) (by omega)]; omega
    have hln := heldN_len r l k
    have hnx : heldN r l (k + 1) = heldN r l k ++ [nodeB r (heldN r l k) k l[k]] := by
      rw [heldN, List.getD_eq_getElem?_getD, List.getElem?_eq_getElem hk2]; rfl
    have hne := hn _ (List.getElem_mem hk2)
    conv => whnf
    refine Sm.seq (Sm.mono (Q := fun e L' s' => e = .normal ∧ Hp (fun _ => False) z [slA κ (.slice a l.length cp) 9 l.length (ndC l)] [blkA b b (bC (heldN r l (k + 1)) l.length) 1, blkA p5 p5 [.slice (some ⟨b, 0, none⟩) l.length l.length] 1, blkA p3 p3 r.cells 10] s' ∧ Sub [(3, .pointer (some ⟨p3, 0, none⟩)), (5, .pointer (some ⟨p5, 0, none⟩)), (12, .slice a l.length cp), (13, .int .i64 (l.length : Int)), (14, .int .i64 (k : Int))] L') ?_ ?_)
    · refine Sm.block ?_
      refine Sm.seqW ?_
      conv => whnf
      obtain ⟨pp, e1, e2⟩ := index_qn (hp.slR .here) .i64 hk2
      refine Om.of _ (e1) ?_
      conv => whnf
      refine Om.of _ (e2) ?_
      conv => whnf
      clear e1 e2
      generalize l[k] = n at hnx hne
      generalize hH : heldN r l k = h at hp hln hnx
      subst hln
      refine hp.alloc (cs := [.int .i64 0]) (e := 1) rfl rfl rfl rfl rfl ?_
      clear hp
      intro p6 s hp _
      conv => whnf
      refine hp.alloc (cs := Qn.zero.cells) (e := 9) rfl rfl rfl rfl rfl ?_
      clear hp
      intro p7 s hp _
      conv => whnf
      (refine hp.store (by repeat (first | exact Rm.here | apply Rm.there)) (by first | exact of_decide_eq_true rfl | (simp; done) | (simp; omega) | omega) rfl rfl rfl rfl ?_; intro s hp _; conv => whnf)
      refine hp.storeW (vs := n.cells) (C := Qn.zero.cells) rfl (by repeat (first | exact Rm.here | apply Rm.there)) (by rfl) rfl rfl rfl ?_
      clear hp
      intro s hp _
      conv => whnf
      refine Sm.live [3, 5, 6, 7, 12, 13, 14] ?_
      conv => whnf
      refine Sm.seqW ?_
      conv => whnf
      refine Sm.live [3, 5, 6, 7, 8, 12, 13, 14] ?_
      conv => whnf
      have hnb : nodeB r h h.length n = if n.kind = 1 then atB h h.length n.a && atB h h.length n.b else if n.kind = 2 then atB h h.length n.a || atB h h.length n.b else if n.kind = 3 then !(atB h h.length n.a) else if n.kind = 4 then testedF n r else false := rfl
      refine Sm.seqW ?_
      conv => whnf
      refine hp.load (v := .int .i64 n.kind) (by repeat (first | exact Has.here | apply Has.there | (apply Has.swap; repeat (first | exact HasR.here | apply HasR.there)))) (by rfl) rfl rfl rfl ?_
      conv => whnf
      refine Sm.live [3, 5, 6, 7, 8, 12, 13, 14, 21] ?_
      conv => whnf
      refine Sm.block ?_
      refine Sm.seqW ?_
      conv => whnf
      refine Sm.live [3, 5, 6, 7, 8, 12, 13, 14, 21, 22] ?_
      conv => whnf
      refine Sm.ofW ?_
      conv => whnf
      by_cases k1 : n.kind = 1
      · rw [if_pos k1] at hnb
        refine Br.yes (beq_iff_eq.2 k1) ?_
        conv => whnf
        refine ⟨[0, 0, 0, 0, 8, 28, 60, 124, 124, 380, 1020, 2044, 4095, 8191], by decide +kernel, by decide +kernel, ?_⟩
        conv => whnf
        refine hp.load (v := .slice (some ⟨b, 0, none⟩) l.length l.length) (by repeat (first | exact Has.here | apply Has.there | (apply Has.swap; repeat (first | exact HasR.here | apply HasR.there)))) (by rfl) rfl rfl rfl ?_
        conv => whnf
        refine hp.load (v := .int .i64 (h.length : Int)) (by repeat (first | exact Has.here | apply Has.there | (apply Has.swap; repeat (first | exact HasR.here | apply HasR.there)))) (by rfl) rfl rfl rfl ?_
        conv => whnf
        refine hp.load (v := .int .i64 n.a) (by repeat (first | exact Has.here | apply Has.there | (apply Has.swap; repeat (first | exact HasR.here | apply HasR.there)))) (by rfl) rfl rfl rfl ?_
        conv => whnf
        refine hp.rst.call (held1_spec hp.rst.wf (p6 := p6) (p5 := p5) (b := b) (N := l.length) (h := h) (hp.rst.blk (by repeat (first | exact Has.here | apply Has.there | (apply Has.swap; repeat (first | exact HasR.here | apply HasR.there))))) (hp.rst.blk (by repeat (first | exact Has.here | apply Has.there | (apply Has.swap; repeat (first | exact HasR.here | apply HasR.there))))) (hp.rst.blk (by repeat (first | exact Has.here | apply Has.there | (apply Has.swap; repeat (first | exact HasR.here | apply HasR.there))))) rfl (Nat.le_of_lt hk2) n.a) ?_
        rintro _ s1 rfl h1 k1
        conv => whnf
        refine hp.dkN h1 k1 ?_
        clear hp h1 k1
        intro s hp
        conv => whnf
        cases ha : atB h h.length n.a with
        | false =>
          rw [ha] at hnb
          repeat (first | (refine Br.yes (by first | with_reducible rfl | with_reducible exact beq_self_eq_true _ | rfl) ?_; conv => whnf) | (refine Br.no (by first | with_reducible rfl | with_reducible exact bne_self_eq_false _ | rfl) ?_; conv => whnf))
          refine Om.of _ (idx_at BL (b := b) (off := 0) (n := l.length) (c := l.length) .i64 hk2) ?_
          conv => whnf
          refine hp.rst.store (v := .bool (false)) (off := 0 + h.length * 1) (by repeat (first | exact Rm.here | apply Rm.there)) (by rw [bC_len (Nat.le_of_lt hk2)]; omega) rfl rfl rfl rfl ?_
          intro s1 h1 l1
          conv => whnf
          refine hp.dkW h1 l1 ?_
          clear hp h1 l1
          intro s hp
          conv => whnf
          rw [bC_set hk2] at hp
          rw [hnx, hnb]
          exact ⟨rfl, hp.pik (by repeat (first | exact Pik.nil | exact Pik.refl _ | exact Rm.here | apply Rm.there | apply Pik.cons | apply Pik.skip)), subK_ok ⟨rfl, rfl, rfl, rfl, rfl, trivial⟩⟩
        | true =>
          rw [ha] at hnb
          repeat (first | (refine Br.yes (by first | with_reducible rfl | with_reducible exact beq_self_eq_true _ | rfl) ?_; conv => whnf) | (refine Br.no (by first | with_reducible rfl | with_reducible exact bne_self_eq_false _ | rfl) ?_; conv => whnf))
          refine hp.load (v := .int .i64 n.b) (by repeat (first | exact Has.here | apply Has.there | (apply Has.swap; repeat (first | exact HasR.here | apply HasR.there)))) (by rfl) rfl rfl rfl ?_
          conv => whnf
          repeat (first | (refine Br.yes (by first | with_reducible rfl | with_reducible exact beq_self_eq_true _ | rfl) ?_; conv => whnf) | (refine Br.no (by first | with_reducible rfl | with_reducible exact bne_self_eq_false _ | rfl) ?_; conv => whnf))
          refine hp.rst.call (held1_spec hp.rst.wf (p6 := p6) (p5 := p5) (b := b) (N := l.length) (h := h) (hp.rst.blk (by repeat (first | exact Has.here | apply Has.there | (apply Has.swap; repeat (first | exact HasR.here | apply HasR.there))))) (hp.rst.blk (by repeat (first | exact Has.here | apply Has.there | (apply Has.swap; repeat (first | exact HasR.here | apply HasR.there))))) (hp.rst.blk (by repeat (first | exact Has.here | apply Has.there | (apply Has.swap; repeat (first | exact HasR.here | apply HasR.there))))) rfl (Nat.le_of_lt hk2) n.b) ?_
          rintro _ s1 rfl h1 k1
          conv => whnf
          refine hp.dkN h1 k1 ?_
          clear hp h1 k1
          intro s hp
          conv => whnf
          repeat (first | (refine Br.yes (by first | with_reducible rfl | with_reducible exact beq_self_eq_true _ | rfl) ?_; conv => whnf) | (refine Br.no (by first | with_reducible rfl | with_reducible exact bne_self_eq_false _ | rfl) ?_; conv => whnf))
          generalize atB h h.length n.b = vb at *
          refine Om.of _ (idx_at BL (b := b) (off := 0) (n := l.length) (c := l.length) .i64 hk2) ?_
          conv => whnf
          refine hp.rst.store (v := .bool (vb)) (off := 0 + h.length * 1) (by repeat (first | exact Rm.here | apply Rm.there)) (by rw [bC_len (Nat.le_of_lt hk2)]; omega) rfl rfl rfl rfl ?_
          intro s1 h1 l1
          conv => whnf
          refine hp.dkW h1 l1 ?_
          clear hp h1 l1
          intro s hp
          conv => whnf
          rw [bC_set hk2] at hp
          rw [hnx, hnb]
          exact ⟨rfl, hp.pik (by repeat (first | exact Pik.nil | exact Pik.refl _ | exact Rm.here | apply Rm.there | apply Pik.cons | apply Pik.skip)), subK_ok ⟨rfl, rfl, rfl, rfl, rfl, trivial⟩⟩
      rw [if_neg k1] at hnb
      refine Br.no (beq_eq_false_iff_ne.2 k1) ?_
      conv => whnf
      by_cases k2 : n.kind = 2
      · rw [if_pos k2] at hnb
        refine Br.yes (beq_iff_eq.2 k2) ?_
        conv => whnf
        refine ⟨[0, 0, 0, 0, 8, 28, 60, 124, 124, 380, 1020, 2044, 4095, 8191], by decide +kernel, by decide +kernel, ?_⟩
        conv => whnf
        refine hp.load (v := .slice (some ⟨b, 0, none⟩) l.length l.length) (by repeat (first | exact Has.here | apply Has.there | (apply Has.swap; repeat (first | exact HasR.here | apply HasR.there)))) (by rfl) rfl rfl rfl ?_
        conv => whnf
        refine hp.load (v := .int .i64 (h.length : Int)) (by repeat (first | exact Has.here | apply Has.there | (apply Has.swap; repeat (first | exact HasR.here | apply HasR.there)))) (by rfl) rfl rfl rfl ?_
        conv => whnf
        refine hp.load (v := .int .i64 n.a) (by repeat (first | exact Has.here | apply Has.there | (apply Has.swap; repeat (first | exact HasR.here | apply HasR.there)))) (by rfl) rfl rfl rfl ?_
        conv => whnf
        refine hp.rst.call (held1_spec hp.rst.wf (p6 := p6) (p5 := p5) (b := b) (N := l.length) (h := h) (hp.rst.blk (by repeat (first | exact Has.here | apply Has.there | (apply Has.swap; repeat (first | exact HasR.here | apply HasR.there))))) (hp.rst.blk (by repeat (first | exact Has.here | apply Has.there | (apply Has.swap; repeat (first | exact HasR.here | apply HasR.there))))) (hp.rst.blk (by repeat (first | exact Has.here | apply Has.there | (apply Has.swap; repeat (first | exact HasR.here | apply HasR.there))))) rfl (Nat.le_of_lt hk2) n.a) ?_
        rintro _ s1 rfl h1 k1
        conv => whnf
        refine hp.dkN h1 k1 ?_
        clear hp h1 k1
        intro s hp
        conv => whnf
        cases ha : atB h h.length n.a with
        | true =>
          rw [ha] at hnb
          repeat (first | (refine Br.yes (by first | with_reducible rfl | with_reducible exact beq_self_eq_true _ | rfl) ?_; conv => whnf) | (refine Br.no (by first | with_reducible rfl | with_reducible exact bne_self_eq_false _ | rfl) ?_; conv => whnf))
          refine Om.of _ (idx_at BL (b := b) (off := 0) (n := l.length) (c := l.length) .i64 hk2) ?_
          conv => whnf
          refine hp.rst.store (v := .bool (true)) (off := 0 + h.length * 1) (by repeat (first | exact Rm.here | apply Rm.there)) (by rw [bC_len (Nat.le_of_lt hk2)]; omega) rfl rfl rfl rfl ?_
          intro s1 h1 l1
          conv => whnf
          refine hp.dkW h1 l1 ?_
          clear hp h1 l1
          intro s hp
          conv => whnf
          rw [bC_set hk2] at hp
          rw [hnx, hnb]
          exact ⟨rfl, hp.pik (by repeat (first | exact Pik.nil | exact Pik.refl _ | exact Rm.here | apply Rm.there | apply Pik.cons | apply Pik.skip)), subK_ok ⟨rfl, rfl, rfl, rfl, rfl, trivial⟩⟩
        | false =>
          rw [ha] at hnb
          repeat (first | (refine Br.yes (by first | with_reducible rfl | with_reducible exact beq_self_eq_true _ | rfl) ?_; conv => whnf) | (refine Br.no (by first | with_reducible rfl | with_reducible exact bne_self_eq_false _ | rfl) ?_; conv => whnf))
          refine hp.load (v := .int .i64 n.b) (by repeat (first | exact Has.here | apply Has.there | (apply Has.swap; repeat (first | exact HasR.here | apply HasR.there)))) (by rfl) rfl rfl rfl ?_
          conv => whnf
          repeat (first | (refine Br.yes (by first | with_reducible rfl | with_reducible exact beq_self_eq_true _ | rfl) ?_; conv => whnf) | (refine Br.no (by first | with_reducible rfl | with_reducible exact bne_self_eq_false _ | rfl) ?_; conv => whnf))
          refine hp.rst.call (held1_spec hp.rst.wf (p6 := p6) (p5 := p5) (b := b) (N := l.length) (h := h) (hp.rst.blk (by repeat (first | exact Has.here | apply Has.there | (apply Has.swap; repeat (first | exact HasR.here | apply HasR.there))))) (hp.rst.blk (by repeat (first | exact Has.here | apply Has.there | (apply Has.swap; repeat (first | exact HasR.here | apply HasR.there))))) (hp.rst.blk (by repeat (first | exact Has.here | apply Has.there | (apply Has.swap; repeat (first | exact HasR.here | apply HasR.there))))) rfl (Nat.le_of_lt hk2) n.b) ?_
          rintro _ s1 rfl h1 k1
          conv => whnf
          refine hp.dkN h1 k1 ?_
          clear hp h1 k1
          intro s hp
          conv => whnf
          repeat (first | (refine Br.yes (by first | with_reducible rfl | with_reducible exact beq_self_eq_true _ | rfl) ?_; conv => whnf) | (refine Br.no (by first | with_reducible rfl | with_reducible exact bne_self_eq_false _ | rfl) ?_; conv => whnf))
          generalize atB h h.length n.b = vb at *
          refine Om.of _ (idx_at BL (b := b) (off := 0) (n := l.length) (c := l.length) .i64 hk2) ?_
          conv => whnf
          refine hp.rst.store (v := .bool (vb)) (off := 0 + h.length * 1) (by repeat (first | exact Rm.here | apply Rm.there)) (by rw [bC_len (Nat.le_of_lt hk2)]; omega) rfl rfl rfl rfl ?_
          intro s1 h1 l1
          conv => whnf
          refine hp.dkW h1 l1 ?_
          clear hp h1 l1
          intro s hp
          conv => whnf
          rw [bC_set hk2] at hp
          rw [hnx, hnb]
          exact ⟨rfl, hp.pik (by repeat (first | exact Pik.nil | exact Pik.refl _ | exact Rm.here | apply Rm.there | apply Pik.cons | apply Pik.skip)), subK_ok ⟨rfl, rfl, rfl, rfl, rfl, trivial⟩⟩
      rw [if_neg k2] at hnb
      refine Br.no (beq_eq_false_iff_ne.2 k2) ?_
      conv => whnf
      by_cases k3 : n.kind = 3
      · rw [if_pos k3] at hnb
        refine Br.yes (beq_iff_eq.2 k3) ?_
        conv => whnf
        refine ⟨[0, 0, 0, 0, 8, 28, 60, 127, 255], by decide +kernel, by decide +kernel, ?_⟩
        conv => whnf
        refine hp.load (v := .slice (some ⟨b, 0, none⟩) l.length l.length) (by repeat (first | exact Has.here | apply Has.there | (apply Has.swap; repeat (first | exact HasR.here | apply HasR.there)))) (by rfl) rfl rfl rfl ?_
        conv => whnf
        refine hp.load (v := .int .i64 (h.length : Int)) (by repeat (first | exact Has.here | apply Has.there | (apply Has.swap; repeat (first | exact HasR.here | apply HasR.there)))) (by rfl) rfl rfl rfl ?_
        conv => whnf
        refine hp.load (v := .int .i64 n.a) (by repeat (first | exact Has.here | apply Has.there | (apply Has.swap; repeat (first | exact HasR.here | apply HasR.there)))) (by rfl) rfl rfl rfl ?_
        conv => whnf
        refine hp.rst.call (held1_spec hp.rst.wf (p6 := p6) (p5 := p5) (b := b) (N := l.length) (h := h) (hp.rst.blk (by repeat (first | exact Has.here | apply Has.there | (apply Has.swap; repeat (first | exact HasR.here | apply HasR.there))))) (hp.rst.blk (by repeat (first | exact Has.here | apply Has.there | (apply Has.swap; repeat (first | exact HasR.here | apply HasR.there))))) (hp.rst.blk (by repeat (first | exact Has.here | apply Has.there | (apply Has.swap; repeat (first | exact HasR.here | apply HasR.there))))) rfl (Nat.le_of_lt hk2) n.a) ?_
        rintro _ s1 rfl h1 k1
        conv => whnf
        refine hp.dkN h1 k1 ?_
        clear hp h1 k1
        intro s hp
        conv => whnf
        generalize atB h h.length n.a = va at *
        refine Om.of _ (idx_at BL (b := b) (off := 0) (n := l.length) (c := l.length) .i64 hk2) ?_
        conv => whnf
        refine hp.rst.store (v := .bool (!va)) (off := 0 + h.length * 1) (by repeat (first | exact Rm.here | apply Rm.there)) (by rw [bC_len (Nat.le_of_lt hk2)]; omega) rfl rfl rfl rfl ?_
        intro s1 h1 l1
        conv => whnf
        refine hp.dkW h1 l1 ?_
        clear hp h1 l1
        intro s hp
        conv => whnf
        rw [bC_set hk2] at hp
        rw [hnx, hnb]
        exact ⟨rfl, hp.pik (by repeat (first | exact Pik.nil | exact Pik.refl _ | exact Rm.here | apply Rm.there | apply Pik.cons | apply Pik.skip)), subK_ok ⟨rfl, rfl, rfl, rfl, rfl, trivial⟩⟩
      rw [if_neg k3] at hnb
      refine Br.no (beq_eq_false_iff_ne.2 k3) ?_
      conv => whnf
      by_cases k4 : n.kind = 4
      · rw [if_pos k4] at hnb
        refine Br.yes (beq_iff_eq.2 k4) ?_
        conv => whnf
        refine ⟨[0, 0, 0, 0, 12, 31, 63], by decide +kernel, by decide +kernel, ?_⟩
        conv => whnf
        refine hp.load (v := .slice (some ⟨b, 0, none⟩) l.length l.length) (by repeat (first | exact Has.here | apply Has.there | (apply Has.swap; repeat (first | exact HasR.here | apply HasR.there)))) (by rfl) rfl rfl rfl ?_
        conv => whnf
        refine hp.load (v := .int .i64 (h.length : Int)) (by repeat (first | exact Has.here | apply Has.there | (apply Has.swap; repeat (first | exact HasR.here | apply HasR.there)))) (by rfl) rfl rfl rfl ?_
        conv => whnf
        refine hp.loadA (l := n.cells) (by repeat (first | exact Has.here | apply Has.there | (apply Has.swap; repeat (first | exact HasR.here | apply HasR.there)))) rfl (by rfl) rfl rfl ?_
        conv => whnf
        refine hp.loadA (l := r.cells) (by repeat (first | exact Has.here | apply Has.there | (apply Has.swap; repeat (first | exact HasR.here | apply HasR.there)))) rfl (by rfl) rfl rfl ?_
        conv => whnf
        refine hp.rst.call (tested_spec hp.rst.wf n r hne hr) ?_
        rintro _ s1 rfl h1 k1
        conv => whnf
        refine hp.dkN h1 k1 ?_
        clear hp h1 k1
        intro s hp
        conv => whnf
        generalize testedF n r = vt at *
        refine Om.of _ (idx_at BL (b := b) (off := 0) (n := l.length) (c := l.length) .i64 hk2) ?_
        conv => whnf
        refine hp.rst.store (v := .bool (vt)) (off := 0 + h.length * 1) (by repeat (first | exact Rm.here | apply Rm.there)) (by rw [bC_len (Nat.le_of_lt hk2)]; omega) rfl rfl rfl rfl ?_
        intro s1 h1 l1
        conv => whnf
        refine hp.dkW h1 l1 ?_
        clear hp h1 l1
        intro s hp
        conv => whnf
        rw [bC_set hk2] at hp
        rw [hnx, hnb]
        exact ⟨rfl, hp.pik (by repeat (first | exact Pik.nil | exact Pik.refl _ | exact Rm.here | apply Rm.there | apply Pik.cons | apply Pik.skip)), subK_ok ⟨rfl, rfl, rfl, rfl, rfl, trivial⟩⟩
      rw [if_neg k4] at hnb
      refine Br.no (beq_eq_false_iff_ne.2 k4) ?_
      conv => whnf
      rw [bC_next hk2, ← hnb, ← hnx] at hp
      exact ⟨rfl, hp.pik (by repeat (first | exact Pik.nil | exact Pik.refl _ | exact Rm.here | apply Rm.there | apply Pik.cons | apply Pik.skip)), subK_ok ⟨rfl, rfl, rfl, rfl, rfl, trivial⟩⟩
    clear hp
    rintro e L' s ⟨rfl, hp, hs⟩
    refine Sm.weak _ hs ?_
    clear hs
    refine Sm.ofW ?_
    conv => whnf
    exact ⟨k + 1, by (show l.length - (k + 1) < l.length - k); omega, subK_ok (by refine ⟨rfl, rfl, rfl, rfl, congrArg (fun x => some (Value.int .i64 x)) e6, trivial⟩), hk2, hp⟩
  · have hk2 : k = l.length := by have := of_decide_eq_false hq; omega
    subst hk2
    conv => whnf
    refine Sm.seqW ?_
    conv => whnf
    refine hp.load (v := .slice (some ⟨b, 0, none⟩) l.length l.length) (by repeat (first | exact Has.here | apply Has.there | (apply Has.swap; repeat (first | exact HasR.here | apply HasR.there)))) (by rfl) rfl rfl rfl ?_
    conv => whnf
    refine Sm.live [4] ?_
    conv => whnf
    refine Sm.ofW ?_
    conv => whnf
    have hfin : bC (heldN r l l.length) l.length = (heldN r l l.length).map Value.bool := by unfold bC; rw [heldN_len, Nat.sub_self]; simp
    rw [hfin] at hp
    replace hp := hp.blkOnU (n := l.length) .here (by rw [List.length_map, heldN_len, Nat.mul_one])
    exact ⟨hp.fr, hp.out .here⟩
end Go.Ev
end

/- Views: Holds, the whole. No condition. -/
noncomputable section
namespace Go.Ev
open Go.Proofs
variable [Lk]
set_option linter.unusedSectionVars false
set_option linter.unusedVariables false
set_option maxRecDepth 100000

theorem holds_spec {z : St} (wf : WF z) (q : Qy) {κ : Option Nat} {w : Value} (hw : Sl z κ w 9 q.nodes.length (ndC q.nodes)) (hl : q.nodes.length ≤ 1000) (hn : ∀ n ∈ q.nodes, n.val_.c < w128) (r : Rv) (hr : r.num) :
    Cw Tryz.prog 29 [q.val w, r.val] z fun v s' => K0 z s' ∧ v = .bool (holdsF q.root q.nodes r) := by
  have hp : Hp (fun _ => False) z [slA κ w 9 q.nodes.length (ndC q.nodes)] [] z := Hp.start _ wf _ (by simp; exact hw)
  obtain ⟨a, cp, rfl⟩ := hw.shape
  refine Cw.enterS Tryz.func29 rfl rfl ?_
  have hh : holdsF q.root q.nodes r = if q.root = -1 then true else decide (0 ≤ q.root) && (decide (q.root < (q.nodes.length : Int)) && (heldN r q.nodes q.nodes.length).getD q.root.toNat false) := rfl
  refine Sm.seqW ?_
  conv => whnf
  refine hp.var (cs := q.cells (.slice a q.nodes.length cp)) (e := 6) rfl rfl ?_
  clear hp
  intro p2 s hp _
  conv => whnf
  refine hp.var (cs := r.cells) (e := 10) rfl rfl ?_
  clear hp
  intro p3 s hp _
  conv => whnf
  refine Sm.live [2, 3] ?_
  conv => whnf
  refine Sm.seq ?_
  refine Sm.seqW ?_
  conv => whnf
  refine hp.load (v := .int .i64 q.root) (by repeat (first | exact Has.here | apply Has.there | (apply Has.swap; repeat (first | exact HasR.here | apply HasR.there)))) (by rfl) rfl rfl rfl ?_
  conv => whnf
  refine Sm.live [2, 3, 7] ?_
  conv => whnf
  refine Sm.ofW ?_
  conv => whnf
  by_cases h1 : q.root = -1
  · rw [if_pos h1] at hh
    refine Br.yes (beq_iff_eq.2 h1) ?_
    conv => whnf
    rw [hh]
    exact ⟨hp.fr, rfl⟩
  rw [if_neg h1] at hh
  refine Br.no (beq_eq_false_iff_ne.2 h1) ?_
  conv => whnf
  refine Sm.seqW ?_
  conv => whnf
  refine ⟨[0, 1, 3, 7, 15, 31, 15, 79, 207, 511, 1023, 2047, 4095, 8191, 4095, 32767, 4095, 69631, 262143, 524287, 1048575, 2097151], by decide +kernel, by decide +kernel, ?_⟩
  conv => whnf
  refine hp.load (v := .int .i64 q.root) (by repeat (first | exact Has.here | apply Has.there | (apply Has.swap; repeat (first | exact HasR.here | apply HasR.there)))) (by rfl) rfl rfl rfl ?_
  conv => whnf
  by_cases h0 : 0 ≤ q.root
  · have q0 : decide (q.root ≥ 0) = true := decide_eq_true h0
    repeat (first | (refine Br.yes q0 ?_; conv => whnf) | (first | (refine Br.yes (by first | with_reducible rfl | with_reducible exact beq_self_eq_true _ | rfl) ?_; conv => whnf) | (refine Br.no (by first | with_reducible rfl | with_reducible exact bne_self_eq_false _ | rfl) ?_; conv => whnf)))
    refine hp.load (v := .int .i64 q.root) (by repeat (first | exact Has.here | apply Has.there | (apply Has.swap; repeat (first | exact HasR.here | apply HasR.there)))) (by rfl) rfl rfl rfl ?_
    conv => whnf
    repeat (first | (refine Br.yes q0 ?_; conv => whnf) | (first | (refine Br.yes (by first | with_reducible rfl | with_reducible exact beq_self_eq_true _ | rfl) ?_; conv => whnf) | (refine Br.no (by first | with_reducible rfl | with_reducible exact bne_self_eq_false _ | rfl) ?_; conv => whnf)))
    refine hp.load (v := .slice a q.nodes.length cp) (by repeat (first | exact Has.here | apply Has.there | (apply Has.swap; repeat (first | exact HasR.here | apply HasR.there)))) (by rfl) rfl rfl rfl ?_
    conv => whnf
    by_cases h2 : q.root < (q.nodes.length : Int)
    · have q2 : decide (q.root < (q.nodes.length : Int)) = true := decide_eq_true h2
      repeat (first | (refine Br.yes q0 ?_; conv => whnf) | (refine Br.yes q2 ?_; conv => whnf) | (first | (refine Br.yes (by first | with_reducible rfl | with_reducible exact beq_self_eq_true _ | rfl) ?_; conv => whnf) | (refine Br.no (by first | with_reducible rfl | with_reducible exact bne_self_eq_false _ | rfl) ?_; conv => whnf)))
      refine hp.load (v := .slice a q.nodes.length cp) (by repeat (first | exact Has.here | apply Has.there | (apply Has.swap; repeat (first | exact HasR.here | apply HasR.there)))) (by rfl) rfl rfl rfl ?_
      conv => whnf
      repeat (first | (refine Br.yes q0 ?_; conv => whnf) | (refine Br.yes q2 ?_; conv => whnf) | (first | (refine Br.yes (by first | with_reducible rfl | with_reducible exact beq_self_eq_true _ | rfl) ?_; conv => whnf) | (refine Br.no (by first | with_reducible rfl | with_reducible exact bne_self_eq_false _ | rfl) ?_; conv => whnf)))
      refine hp.loadA (l := r.cells) (by repeat (first | exact Has.here | apply Has.there | (apply Has.swap; repeat (first | exact HasR.here | apply HasR.there)))) rfl (by rfl) rfl rfl ?_
      conv => whnf
      repeat (first | (refine Br.yes q0 ?_; conv => whnf) | (refine Br.yes q2 ?_; conv => whnf) | (first | (refine Br.yes (by first | with_reducible rfl | with_reducible exact beq_self_eq_true _ | rfl) ?_; conv => whnf) | (refine Br.no (by first | with_reducible rfl | with_reducible exact bne_self_eq_false _ | rfl) ?_; conv => whnf)))
      refine hp.rst.callO (held_spec hp.rst.wf (hp.rst.slR .here) hl hn r hr) ?_
      intro v23 κ23 s1 h1 k1
      conv => whnf
      refine hp.dkN h1 k1 ?_
      clear hp h1 k1
      intro s hp
      conv => whnf
      repeat (first | (refine Br.yes q0 ?_; conv => whnf) | (refine Br.yes q2 ?_; conv => whnf) | (first | (refine Br.yes (by first | with_reducible rfl | with_reducible exact beq_self_eq_true _ | rfl) ?_; conv => whnf) | (refine Br.no (by first | with_reducible rfl | with_reducible exact bne_self_eq_false _ | rfl) ?_; conv => whnf)))
      refine hp.load (v := .int .i64 q.root) (by repeat (first | exact Has.here | apply Has.there | (apply Has.swap; repeat (first | exact HasR.here | apply HasR.there)))) (by rfl) rfl rfl rfl ?_
      conv => whnf
      repeat (first | (refine Br.yes q0 ?_; conv => whnf) | (refine Br.yes q2 ?_; conv => whnf) | (first | (refine Br.yes (by first | with_reducible rfl | with_reducible exact beq_self_eq_true _ | rfl) ?_; conv => whnf) | (refine Br.no (by first | with_reducible rfl | with_reducible exact bne_self_eq_false _ | rfl) ?_; conv => whnf)))
      obtain ⟨f, hf, hf2⟩ : ∃ f : Nat, q.root = (f : Int) ∧ f < q.nodes.length := ⟨q.root.toNat, by omega, by omega⟩
      obtain ⟨pp, y, e1, e2, e3, _, rfl⟩ := index_sl BL Tryz.underlying4 rfl (hp.slF (κ := κ23) (v := v23) (by repeat (first | exact Rm.here | apply Rm.there))) .i64 (i := f) hf2
      have hy : y = .bool ((heldN r q.nodes q.nodes.length).getD f false) := by
        have hlen : f < (heldN r q.nodes q.nodes.length).length := by rw [heldN_len]; exact hf2
        rw [List.getElem?_map, List.getElem?_eq_getElem hlen] at e2
        rw [List.getD_eq_getElem?_getD, List.getElem?_eq_getElem hlen]
        exact (Option.some.inj e2).symm
      subst hy
      rw [← hf] at e1
      refine Om.of _ (e1) ?_
      conv => whnf
      repeat (first | (refine Br.yes q0 ?_; conv => whnf) | (refine Br.yes q2 ?_; conv => whnf) | (first | (refine Br.yes (by first | with_reducible rfl | with_reducible exact beq_self_eq_true _ | rfl) ?_; conv => whnf) | (refine Br.no (by first | with_reducible rfl | with_reducible exact bne_self_eq_false _ | rfl) ?_; conv => whnf)))
      refine Om.of _ (e3) ?_
      conv => whnf
      repeat (first | (refine Br.yes q0 ?_; conv => whnf) | (refine Br.yes q2 ?_; conv => whnf) | (first | (refine Br.yes (by first | with_reducible rfl | with_reducible exact beq_self_eq_true _ | rfl) ?_; conv => whnf) | (refine Br.no (by first | with_reducible rfl | with_reducible exact bne_self_eq_false _ | rfl) ?_; conv => whnf)))
      refine Sm.live [4] ?_
      conv => whnf
      refine Sm.ofW ?_
      conv => whnf
      rw [hh, decide_eq_true h0, decide_eq_true h2, hf]
      exact ⟨hp.fr, rfl⟩
    · have q2 : decide (q.root < (q.nodes.length : Int)) = false := decide_eq_false h2
      repeat (first | (refine Br.yes q0 ?_; conv => whnf) | (refine Br.no q2 ?_; conv => whnf) | (first | (refine Br.yes (by first | with_reducible rfl | with_reducible exact beq_self_eq_true _ | rfl) ?_; conv => whnf) | (refine Br.no (by first | with_reducible rfl | with_reducible exact bne_self_eq_false _ | rfl) ?_; conv => whnf)))
      refine Sm.live [4] ?_
      conv => whnf
      refine Sm.ofW ?_
      conv => whnf
      rw [hh, decide_eq_true h0, decide_eq_false h2]
      exact ⟨hp.fr, by first | rfl | exact congrArg Value.bool q2⟩
  · have q0 : decide (q.root ≥ 0) = false := decide_eq_false h0
    repeat (first | (refine Br.no q0 ?_; conv => whnf) | (first | (refine Br.yes (by first | with_reducible rfl | with_reducible exact beq_self_eq_true _ | rfl) ?_; conv => whnf) | (refine Br.no (by first | with_reducible rfl | with_reducible exact bne_self_eq_false _ | rfl) ?_; conv => whnf)))
    refine Sm.live [4] ?_
    conv => whnf
    refine Sm.ofW ?_
    conv => whnf
    rw [hh, decide_eq_false h0]
    exact ⟨hp.fr, by first | rfl | exact congrArg Value.bool q0⟩
end Go.Ev
end

/- pyxlaw21.text walked. No condition. -/
noncomputable section
namespace Go.Ev
open Go.Proofs
variable [Lk]
set_option linter.unusedSectionVars false
set_option linter.unusedVariables false
set_option maxRecDepth 100000

end Go.Ev
end

/- LexTells walked. No condition. -/
noncomputable section
namespace Go.Ev
open Go.Proofs
variable [Lk]
set_option linter.unusedSectionVars false
set_option linter.unusedVariables false
set_option maxRecDepth 100000

end Go.Ev
end

/- Tokens of texts that stand behind others, without a program. No condition. -/
noncomputable section
namespace Go.Ev
open Go.Proofs
variable [Lk]
set_option linter.unusedSectionVars false
set_option linter.unusedVariables false
set_option maxRecDepth 100000

def Tok.sh (n : Nat) (t : Tok) : Tok := ⟨t.kind, t.text, n + t.at_⟩
theorem tw_stop (p : UInt8 → Bool) (h : p 32 = false) (r rest : List UInt8) : (r ++ 32 :: rest).takeWhile p = r.takeWhile p := by
  induction r with
  | nil => rw [List.nil_append, List.takeWhile_cons_of_neg (by rw [h]; decide)]; rfl
  | cons x r ih =>
    rw [List.cons_append]
    cases hx : p x with
    | true => rw [List.takeWhile_cons_of_pos hx, List.takeWhile_cons_of_pos hx, ih]
    | false => rw [List.takeWhile_cons_of_neg (by rw [hx]; decide), List.takeWhile_cons_of_neg (by rw [hx]; decide)]
theorem numAt_stop (c : UInt8) (r rest : List UInt8) : numAt c (r ++ 32 :: rest) = numAt c r := by
  cases r with
  | nil => rfl
  | cons x r => rfl
theorem one_stop (c : UInt8) (r rest : List UInt8) (i n : Nat) : oneL c (r ++ 32 :: rest) (n + i) = (oneL c r i).map (Tok.sh n) := by
  unfold oneL
  rw [tw_stop isL rfl, tw_stop isP rfl, numAt_stop]
  split
  · rfl
  · split
    · split <;> rfl
    · split <;> rfl
theorem one_sh (c : UInt8) (r : List UInt8) (i n : Nat) : oneL c r (n + i) = (oneL c r i).map (Tok.sh n) := by
  unfold oneL
  split
  · rfl
  · split
    · split <;> rfl
    · split <;> rfl
theorem lex_suffix (P t : List UInt8) : ∀ (m i : Nat), t.length - i ≤ m → i ≤ t.length → ∀ ts, lexF t i = .inl ts → lexF (P ++ t) (P.length + i) = .inl (ts.map (Tok.sh P.length)) := by
  intro m
  induction m with
  | zero =>
    intro i h hi ts hts
    rw [lexF_end (by omega)] at hts
    rw [lexF_end (by simp; omega)]
    injection hts with hts
    rw [← hts]; rfl
  | succ m ih =>
    intro i h hi ts hts
    by_cases hlt : i < t.length
    · obtain ⟨c, r, hd⟩ : ∃ c r, t.drop i = c :: r := ⟨_, _, List.drop_eq_getElem_cons hlt⟩
      have hd2 : (P ++ t).drop (P.length + i) = c :: r := by rw [← hd]; simp [List.drop_append]
      by_cases hc : c = 32
      · rw [lexF_blank hd hc] at hts
        rw [lexF_blank hd2 hc, Nat.add_assoc]
        exact ih (i + 1) (by omega) (by omega) ts hts
      · cases ho : oneL c r i with
        | none => rw [lexF_bad hd hc ho] at hts; cases hts
        | some x =>
          have ho2 : oneL c r (P.length + i) = some (x.sh P.length) := by rw [one_sh, ho]; rfl
          obtain ⟨t1, t2, t3, t4, t5⟩ := oneL_text ho
          have hrl : t.length - i = r.length + 1 := by have := congrArg List.length hd; simpa using this
          have : 0 < x.text.length := List.length_pos_iff.2 t2
          rw [lexF_tok hd hc ho] at hts
          rw [lexF_tok hd2 hc ho2]
          have hn : P.length + i + (x.sh P.length).text.length = P.length + (i + x.text.length) := by show P.length + i + x.text.length = _; omega
          rw [hn]
          cases hx : lexF t (i + x.text.length) with
          | inr k => rw [hx] at hts; cases hts
          | inl us =>
            rw [hx] at hts
            injection hts with hts
            rw [ih (i + x.text.length) (by omega) (by omega) us hx, ← hts]; rfl
    · rw [lexF_end (by omega)] at hts
      rw [lexF_end (by simp; omega)]
      injection hts with hts
      rw [← hts]
      have : i = t.length := by omega
      rfl
theorem lex_stop (P s rest : List UInt8) : ∀ (m i : Nat), s.length - i ≤ m → i ≤ s.length →
    (∀ k, lexF s i = .inr k → lexF (P ++ (s ++ 32 :: rest)) (P.length + i) = .inr (P.length + k)) ∧
    (∀ ts, lexF s i = .inl ts → ∃ us, ts = us ++ [⟨4, [], s.length⟩] ∧ lexF (P ++ (s ++ 32 :: rest)) (P.length + i) = afterR (us.map (Tok.sh P.length)) (lexF (P ++ (s ++ 32 :: rest)) (P.length + s.length))) := by
  intro m
  have base : ∀ i, i = s.length → (∀ k, lexF s i = .inr k → lexF (P ++ (s ++ 32 :: rest)) (P.length + i) = .inr (P.length + k)) ∧
    (∀ ts, lexF s i = .inl ts → ∃ us, ts = us ++ [⟨4, [], s.length⟩] ∧ lexF (P ++ (s ++ 32 :: rest)) (P.length + i) = afterR (us.map (Tok.sh P.length)) (lexF (P ++ (s ++ 32 :: rest)) (P.length + s.length))) := by
    intro i hi
    subst hi
    rw [lexF_end (Nat.le_refl _)]
    refine ⟨fun k hk => by (cases hk), fun ts hts => ⟨[], by injection hts with hts; rw [← hts]; rfl, ?_⟩⟩
    cases lexF (P ++ (s ++ 32 :: rest)) (P.length + s.length) <;> rfl
  induction m with
  | zero => intro i h hi; exact base i (by omega)
  | succ m ih =>
    intro i h hi
    by_cases hlt : i < s.length
    · obtain ⟨c, r, hd⟩ : ∃ c r, s.drop i = c :: r := ⟨_, _, List.drop_eq_getElem_cons hlt⟩
      have hd2 : (P ++ (s ++ 32 :: rest)).drop (P.length + i) = c :: (r ++ 32 :: rest) := by
        rw [← List.cons_append, ← hd, List.drop_append, List.drop_eq_nil_of_le (by omega), List.nil_append, show P.length + i - P.length = i by omega, List.drop_append_of_le_length hi]
      by_cases hc : c = 32
      · rw [lexF_blank hd hc, lexF_blank hd2 hc, Nat.add_assoc]
        exact ih (i + 1) (by omega) (by omega)
      · cases ho : oneL c r i with
        | none =>
          have ho2 : oneL c (r ++ 32 :: rest) (P.length + i) = none := by rw [one_stop, ho]; rfl
          rw [lexF_bad hd hc ho, lexF_bad hd2 hc ho2]
          exact ⟨fun k hk => by injection hk with hk; rw [hk], fun ts hts => by (cases hts)⟩
        | some x =>
          have ho2 : oneL c (r ++ 32 :: rest) (P.length + i) = some (x.sh P.length) := by rw [one_stop, ho]; rfl
          obtain ⟨t1, t2, t3, t4, t5⟩ := oneL_text ho
          have hrl : s.length - i = r.length + 1 := by have := congrArg List.length hd; simpa using this
          have : 0 < x.text.length := List.length_pos_iff.2 t2
          have hn : P.length + i + (x.sh P.length).text.length = P.length + (i + x.text.length) := by show P.length + i + x.text.length = _; omega
          rw [lexF_tok hd hc ho, lexF_tok hd2 hc ho2, hn]
          obtain ⟨g1, g2⟩ := ih (i + x.text.length) (by omega) (by omega)
          cases hx : lexF s (i + x.text.length) with
          | inr k' =>
            rw [g1 k' hx]
            exact ⟨fun k hk => by injection hk with hk; rw [hk], fun ts hts => by (cases hts)⟩
          | inl us' =>
            obtain ⟨us, e1, e2⟩ := g2 us' hx
            refine ⟨fun k hk => by (cases hk), fun ts hts => ⟨x :: us, ?_, ?_⟩⟩
            · injection hts with hts; rw [← hts, e1]; rfl
            · rw [e2]
              cases lexF (P ++ (s ++ 32 :: rest)) (P.length + s.length) <;> rfl
    · exact base i (by omega)
end Go.Ev
end

/- Conditions within others, without a program: what is read stands in any place the same. No condition. -/
noncomputable section
namespace Go.Ev
open Go.Proofs
variable [Lk]
set_option linter.unusedSectionVars false
set_option linter.unusedVariables false
set_option maxRecDepth 100000

def kt (t : Tok) : Int × List UInt8 := (t.kind, t.text)
/-- A node behind others. -/
def shQ (k : Nat) (n : Qn) : Qn := if n.kind = 4 then n else if n.kind = 3 then { n with a := n.a + k } else { n with a := n.a + k, b := n.b + k }
/-- What two readers differ in: how many more were begun; what stands at the end of the first one's tokens, of the other's. -/
structure Sp where
  n : Nat
  e : Tok
  x : Tok
  v : List Tok
/-- Two readers of the same tokens: the first at the end of its text, the other with a closing parenthesis behind, and with nodes ahead. -/
structure Sim (pre : List Qn) (m : Sp) (r1 r2 : RS) : Prop where
  b1 : r1.bad = false
  b2 : r2.bad = false
  t : ∃ w1 w2, r1.t = w1 ++ [m.e] ∧ r2.t = w2 ++ m.x :: m.v ∧ w1.map kt = w2.map kt ∧ m.e.kind = 4 ∧ m.x.kind = 3 ∧ m.x.text = [41]
  l : r2.l = pre ++ r1.l.map (shQ pre.length)
  m : r2.begun = r1.begun + m.n
def Out3 (pre : List Qn) (m : Sp) (y1 y2 : Int × RS) : Prop := y1.2.bad = true ∨ y2.2.bad = true ∨ (Sim pre m y1.2 y2.2 ∧ y2.1 = y1.1 + pre.length)
section
variable {pre : List Qn} {m : Sp} {r1 r2 : RS}
theorem pass_t {r : RS} {t : Tok} {w : List Tok} (hb : r.bad = false) (h : r.t = t :: w) (hw : w ≠ []) : r.pass = { r with t := w } := by
  unfold RS.pass
  have : 0 < w.length := List.length_pos_iff.2 hw
  rw [if_pos ⟨hb, by rw [h, List.length_cons]; omega⟩, h]; rfl
theorem Sim.cases (h : Sim pre m r1 r2) : (r1.nx.kind = 4 ∧ r2.nx.kind = 3 ∧ r2.nx.text = [41]) ∨ (r1.nx.kind = r2.nx.kind ∧ r1.nx.text = r2.nx.text ∧ Sim pre m r1.pass r2.pass) := by
  obtain ⟨w1, w2, h1, h2, h3, h4, h5, h6⟩ := h.t
  cases w1 with
  | nil =>
    cases w2 with
    | cons t2 w2 => simp at h3
    | nil =>
      left
      unfold RS.nx
      rw [h1, h2]
      exact ⟨h4, h5, h6⟩
  | cons t1 w1 =>
    cases w2 with
    | nil => simp at h3
    | cons t2 w2 =>
      right
      rw [List.map_cons, List.map_cons] at h3
      injection h3 with h3 h7
      unfold kt at h3
      injection h3 with h3 h8
      have p1 := pass_t h.b1 (h1.trans (List.cons_append ..)) (by simp)
      have p2 := pass_t h.b2 (h2.trans (List.cons_append ..)) (by simp)
      refine ⟨?_, ?_, ?_⟩
      · unfold RS.nx; rw [h1, h2]; exact h3
      · unfold RS.nx; rw [h1, h2]; exact h8
      · rw [p1, p2]
        exact ⟨h.b1, h.b2, ⟨w1, w2, rfl, rfl, h7, h4, h5, h6⟩, h.l, h.m⟩
theorem Sim.beg (h : Sim pre m r1 r2) (w : List UInt8) :
    (r1.beg w = false ∧ (r1.begS w).bad = true) ∨ (r2.beg w = false ∧ (r2.begS w).bad = true) ∨ (r1.beg w = false ∧ r2.beg w = false ∧ r1.begS w = r1 ∧ r2.begS w = r2) ∨ (r1.beg w = true ∧ r2.beg w = true ∧ Sim pre m (r1.begS w) (r2.begS w)) := by
  have e1 : r1.is 1 w = (decide (r1.nx.kind = 1) && decide (r1.nx.text = w)) := by unfold RS.is; rw [h.b1]; rfl
  have e2 : r2.is 1 w = (decide (r2.nx.kind = 1) && decide (r2.nx.text = w)) := by unfold RS.is; rw [h.b2]; rfl
  have no : ∀ r : RS, r.is 1 w = false → r.beg w = false ∧ r.begS w = r := fun r hr => ⟨by unfold RS.beg; rw [hr]; rfl, if_neg (by rw [hr]; decide)⟩
  rcases h.cases with ⟨a1, a2, a3⟩ | ⟨a1, a2, a3⟩
  · have f1 : r1.is 1 w = false := by rw [e1, a1]; rfl
    have f2 : r2.is 1 w = false := by rw [e2, a2]; rfl
    exact .inr (.inr (.inl ⟨(no r1 f1).1, (no r2 f2).1, (no r1 f1).2, (no r2 f2).2⟩))
  · rw [a1, a2, ← e2] at e1
    cases hi : r2.is 1 w with
    | false =>
      rw [hi] at e1
      exact .inr (.inr (.inl ⟨(no r1 e1).1, (no r2 hi).1, (no r1 e1).2, (no r2 hi).2⟩))
    | true =>
      have hk2 : r2.nx.kind = 1 := by have := e2.symm.trans hi; simp at this; exact this.1
      rw [hi] at e1
      by_cases g1 : r1.begun = 32
      · left
        refine ⟨by unfold RS.beg; rw [e1, g1]; rfl, ?_⟩
        unfold RS.begS; rw [if_pos e1, if_pos g1]; rfl
      · by_cases g2 : r2.begun = 32
        · right; left
          refine ⟨by unfold RS.beg; rw [hi, g2]; rfl, ?_⟩
          unfold RS.begS; rw [if_pos hi, if_pos g2]; rfl
        · right; right; right
          refine ⟨by unfold RS.beg; rw [e1]; simp [g1], by unfold RS.beg; rw [hi]; simp [g2], ?_⟩
          unfold RS.begS
          rw [if_pos e1, if_pos hi, if_neg g1, if_neg g2]
          have hs : Sim pre m { r1 with begun := r1.begun + 1 } { r2 with begun := r2.begun + 1 } := ⟨h.b1, h.b2, h.t, h.l, by show r2.begun + 1 = r1.begun + 1 + m.n; have := h.m; omega⟩
          rcases hs.cases with ⟨c1, c2, c3⟩ | ⟨_, _, c3⟩
          · exfalso
            have c2 : r2.nx.kind = 3 := c2
            omega
          · exact c3
theorem Sim.put (h : Sim pre m r1 r2) {n1 n2 : Qn} (hn : n2 = shQ pre.length n1) : Out3 pre m (r1.putI, r1.put n1) (r2.putI, r2.put n2) := by
  right; right
  have p1 : r1.put n1 = { r1 with l := r1.l ++ [n1] } := if_neg (by rw [h.b1]; decide)
  have p2 : r2.put n2 = { r2 with l := r2.l ++ [n2] } := if_neg (by rw [h.b2]; decide)
  have p3 : r1.putI = (r1.l.length : Int) := if_neg (by rw [h.b1]; decide)
  have p4 : r2.putI = (r2.l.length : Int) := if_neg (by rw [h.b2]; decide)
  rw [p1, p2, p3, p4]
  refine ⟨⟨h.b1, h.b2, h.t, ?_, h.m⟩, ?_⟩
  · show r2.l ++ [n2] = pre ++ (r1.l ++ [n1]).map (shQ pre.length)
    rw [h.l, hn]; simp
  · show ((r2.l.length : Nat) : Int) = (r1.l.length : Int) + pre.length
    rw [h.l]; simp; omega
end
theorem bad_put {r : RS} (h : r.bad = true) (n : Qn) : (r.put n).bad = true := by unfold RS.put; rw [if_pos h]; exact h
theorem bad_is {r : RS} (h : r.bad = true) (k : Int) (w : List UInt8) : r.is k w = false := by unfold RS.is; rw [h]; rfl
theorem bad_beg {r : RS} (h : r.bad = true) (w : List UInt8) : r.beg w = false ∧ r.begS w = r := ⟨by unfold RS.beg; rw [bad_is h]; rfl, if_neg (by rw [bad_is h]; decide)⟩
theorem bad_chainL {r : RS} (h : r.bad = true) (w : List UInt8) (k : Int) (part : RS → Int × RS) (n : Nat) (a : Int) : (chainL w k part n a r).2.bad = true := by
  cases n with
  | zero => exact h
  | succ n =>
    unfold chainL
    rw [(bad_beg h w).1, (bad_beg h w).2, if_neg (by decide)]
    exact h
theorem Out3.chainL {pre : List Qn} {m : Sp} {w : List UInt8} {k : Int} (hk3 : k ≠ 3) (hk4 : k ≠ 4) {part1 part2 : RS → Int × RS} (hp : ∀ r1 r2, Sim pre m r1 r2 → Out3 pre m (part1 r1) (part2 r2)) :
    ∀ (n : Nat) (a1 a2 : Int) (r1 r2 : RS), Sim pre m r1 r2 → a2 = a1 + pre.length → Out3 pre m (chainL w k part1 n a1 r1) (chainL w k part2 n a2 r2)
  | 0, a1, a2, r1, r2, h, ha => .inr (.inr ⟨h, ha⟩)
  | n + 1, a1, a2, r1, r2, h, ha => by
    have c1 : Go.Ev.chainL w k part1 (n + 1) a1 r1 = if r1.beg w = true then Go.Ev.chainL w k part1 n (part1 (r1.begS w)).2.putI ((part1 (r1.begS w)).2.put ⟨k, 0, [], Dc.zero, a1, (part1 (r1.begS w)).1⟩) else (a1, r1.begS w) := rfl
    have c2 : Go.Ev.chainL w k part2 (n + 1) a2 r2 = if r2.beg w = true then Go.Ev.chainL w k part2 n (part2 (r2.begS w)).2.putI ((part2 (r2.begS w)).2.put ⟨k, 0, [], Dc.zero, a2, (part2 (r2.begS w)).1⟩) else (a2, r2.begS w) := rfl
    rcases h.beg w with ⟨g1, g2⟩ | ⟨g1, g2⟩ | ⟨g1, g2, g3, g4⟩ | ⟨g1, g2, g3⟩
    · left; rw [c1, if_neg (by rw [g1]; decide)]; exact g2
    · right; left; rw [c2, if_neg (by rw [g1]; decide)]; exact g2
    · rw [c1, c2, if_neg (by rw [g1]; decide), if_neg (by rw [g2]; decide), g3, g4]
      exact .inr (.inr ⟨h, ha⟩)
    · rw [c1, c2, if_pos g1, if_pos g2]
      rcases hp _ _ g3 with o | o | ⟨o, oa⟩
      · left; exact bad_chainL (bad_put o _) _ _ _ _ _
      · right; left; exact bad_chainL (bad_put o _) _ _ _ _ _
      · have hsh : (⟨k, 0, [], Dc.zero, a2, (part2 (r2.begS w)).1⟩ : Qn) = shQ pre.length ⟨k, 0, [], Dc.zero, a1, (part1 (r1.begS w)).1⟩ := by
          unfold shQ
          rw [if_neg hk4, if_neg hk3, ha, oa]
        rcases o.put hsh with q | q | ⟨q, qa⟩
        · left; exact bad_chainL q _ _ _ _ _
        · right; left; exact bad_chainL q _ _ _ _ _
        · exact Out3.chainL hk3 hk4 hp n _ _ _ _ q qa
theorem Out3.chainF {pre : List Qn} {m : Sp} {w : List UInt8} {k : Int} (hk3 : k ≠ 3) (hk4 : k ≠ 4) {part1 part2 : RS → Int × RS} (hp : ∀ r1 r2, Sim pre m r1 r2 → Out3 pre m (part1 r1) (part2 r2)) (r1 r2 : RS) (h : Sim pre m r1 r2) :
    Out3 pre m (chainF w k part1 r1) (chainF w k part2 r2) := by
  unfold Go.Ev.chainF
  rcases hp _ _ h with o | o | ⟨o, oa⟩
  · left; exact bad_chainL o _ _ _ _ _
  · right; left; exact bad_chainL o _ _ _ _ _
  · exact Out3.chainL hk3 hk4 hp 33 _ _ _ _ o oa
end Go.Ev
end

/- Conditions within others, without a program: tests, factors, conditions. No condition. -/
noncomputable section
namespace Go.Ev
open Go.Proofs
variable [Lk]
set_option linter.unusedSectionVars false
set_option linter.unusedVariables false
set_option maxRecDepth 100000

section
variable {pre : List Qn} {m : Sp} {r1 r2 : RS}
theorem fail_bad (r : RS) : r.fail.bad = true := rfl
theorem kind_field {r : RS} (h : r.nx.kind ≠ 1) : r.field = 0 := if_pos (.inr h)
theorem Sim.test (h : Sim pre m r1 r2) : Out3 pre m (testF r1) (testF r2) := by
  have t0 : ∀ r : RS, r.field = 0 → (testF r).2.bad = true := fun r hr => by unfold testF; rw [if_pos hr]; rfl
  rcases h.cases with ⟨a1, a2, a3⟩ | ⟨a1, a2, a3⟩
  · exact .inl (t0 _ (kind_field (by rw [a1]; decide)))
  · have hf : r1.field = r2.field := by unfold RS.field; rw [h.b1, h.b2, a1, a2]
    by_cases f0 : r1.field = 0
    · exact .inl (t0 _ f0)
    · have t1 : testF r1 = if r1.beg (fldL.getD r1.field.toNat []) = false then (0, (r1.begS (fldL.getD r1.field.toNat [])).fail)
        else if (r1.begS (fldL.getD r1.field.toNat [])).nx.kind ≠ 3 ∨ cmpS (r1.begS (fldL.getD r1.field.toNat [])).nx.text = false then (0, (r1.begS (fldL.getD r1.field.toNat [])).fail)
        else ((((r1.begS (fldL.getD r1.field.toNat [])).pass).numS).putI, (((r1.begS (fldL.getD r1.field.toNat [])).pass).numS).put ⟨4, r1.field, (r1.begS (fldL.getD r1.field.toNat [])).nx.text, ((r1.begS (fldL.getD r1.field.toNat [])).pass).numV, 0, 0⟩) := by
        unfold testF; rw [if_neg f0]
      have t2 : testF r2 = if r2.beg (fldL.getD r1.field.toNat []) = false then (0, (r2.begS (fldL.getD r1.field.toNat [])).fail)
        else if (r2.begS (fldL.getD r1.field.toNat [])).nx.kind ≠ 3 ∨ cmpS (r2.begS (fldL.getD r1.field.toNat [])).nx.text = false then (0, (r2.begS (fldL.getD r1.field.toNat [])).fail)
        else ((((r2.begS (fldL.getD r1.field.toNat [])).pass).numS).putI, (((r2.begS (fldL.getD r1.field.toNat [])).pass).numS).put ⟨4, r1.field, (r2.begS (fldL.getD r1.field.toNat [])).nx.text, ((r2.begS (fldL.getD r1.field.toNat [])).pass).numV, 0, 0⟩) := by
        unfold testF; rw [← hf, if_neg f0]
      generalize fldL.getD r1.field.toNat [] = w at t1 t2
      rcases h.beg w with ⟨g1, _⟩ | ⟨g1, _⟩ | ⟨g1, _, _, _⟩ | ⟨g1, g2, g3⟩
      · left; rw [t1, if_pos g1]; rfl
      · right; left; rw [t2, if_pos g1]; rfl
      · left; rw [t1, if_pos g1]; rfl
      · rw [if_neg (by rw [g1]; decide)] at t1
        rw [if_neg (by rw [g2]; decide)] at t2
        generalize r1.begS w = s1 at *
        generalize r2.begS w = s2 at *
        rcases g3.cases with ⟨c1, c2, c3⟩ | ⟨c1, c2, c3⟩
        · left; rw [t1, if_pos (.inl (by rw [c1]; decide))]; rfl
        · by_cases hs : s1.nx.kind ≠ 3 ∨ cmpS s1.nx.text = false
          · left; rw [t1, if_pos hs]; rfl
          · rw [if_neg hs] at t1
            rw [c1, c2] at hs
            rw [if_neg hs, ← c2] at t2
            generalize s1.nx.text = sg at *
            generalize s1.pass = q1 at *
            generalize s2.pass = q2 at *
            rw [t1, t2]
            rcases c3.cases with ⟨d1, d2, d3⟩ | ⟨d1, d2, d3⟩
            · left
              have : q1.numS = q1.fail := if_pos (.inr (by rw [d1]; decide))
              rw [this]
              exact bad_put (fail_bad q1) ⟨4, r1.field, sg, q1.numV, 0, 0⟩
            · by_cases hk : q1.nx.kind = 2
              · have e1 : q1.numS = q1.pass := if_neg (fun g => g.elim (fun g => by rw [c3.b1] at g; cases g) (fun g => g hk))
                have e2 : q2.numS = q2.pass := if_neg (fun g => g.elim (fun g => by rw [c3.b2] at g; cases g) (fun g => g (d1 ▸ hk)))
                have v1 : q1.numV = dcR q1.nx.text := if_neg (fun g => g.elim (fun g => by rw [c3.b1] at g; cases g) (fun g => g hk))
                have v2 : q2.numV = dcR q2.nx.text := if_neg (fun g => g.elim (fun g => by rw [c3.b2] at g; cases g) (fun g => g (d1 ▸ hk)))
                rw [e1, e2, v1, v2, ← d2]
                exact d3.put (by unfold shQ; rw [if_pos rfl])
              · left
                have : q1.numS = q1.fail := if_pos (.inr hk)
                rw [this]
                exact bad_put (fail_bad q1) ⟨4, r1.field, sg, q1.numV, 0, 0⟩
theorem Sim.cond {n1 n2 : Nat} (hf : ∀ r1 r2, Sim pre m r1 r2 → Out3 pre m (factorF n1 r1) (factorF n2 r2)) (h : Sim pre m r1 r2) : Out3 pre m (condF n1 r1) (condF n2 r2) :=
  Out3.chainF (by decide) (by decide) (fun r1 r2 h => Out3.chainF (by decide) (by decide) hf r1 r2 h) r1 r2 h
end
theorem Sim.factor {pre : List Qn} {m : Sp} : ∀ (n2 n1 : Nat), n2 ≤ n1 → ∀ r1 r2, Sim pre m r1 r2 → Out3 pre m (factorF n1 r1) (factorF n2 r2) := by
  intro n2
  induction n2 with
  | zero =>
    intro n1 _ r1 r2 h
    rcases h.cases with ⟨a1, a2, a3⟩ | ⟨a1, a2, a3⟩
    · have o1 : r1.opens = false := by unfold RS.opens; rw [a1]; rfl
      have o2 : r1.nots = false := by unfold RS.nots; rw [a1]; rfl
      have p1 : r2.opens = false := by unfold RS.opens; rw [a3]; simp
      have p2 : r2.nots = false := by unfold RS.nots; rw [a2]; rfl
      rw [factorF_test n1 h.b1 o1 o2, factorF_test 0 h.b2 p1 p2]
      exact h.test
    · have e1 : r1.opens = r2.opens := by unfold RS.opens; rw [a1, a2]
      have e2 : r1.nots = r2.nots := by unfold RS.nots; rw [a1, a2]
      cases ho : (r2.opens || r2.nots) with
      | true => right; left; rw [factorF_0 h.b2 ho]; rfl
      | false =>
        rw [Bool.or_eq_false_iff] at ho
        rw [factorF_test n1 h.b1 (e1.trans ho.1) (e2.trans ho.2), factorF_test 0 h.b2 ho.1 ho.2]
        exact h.test
  | succ n2 ih =>
    intro n1 hn r1 r2 h
    obtain ⟨n1, rfl⟩ : ∃ k, n1 = k + 1 := ⟨n1 - 1, by omega⟩
    rcases h.cases with ⟨a1, a2, a3⟩ | ⟨a1, a2, a3⟩
    · have o1 : r1.opens = false := by unfold RS.opens; rw [a1]; rfl
      have o2 : r1.nots = false := by unfold RS.nots; rw [a1]; rfl
      have p1 : r2.opens = false := by unfold RS.opens; rw [a3]; simp
      have p2 : r2.nots = false := by unfold RS.nots; rw [a2]; rfl
      rw [factorF_test _ h.b1 o1 o2, factorF_test _ h.b2 p1 p2]
      exact h.test
    · have e1 : r1.opens = r2.opens := by unfold RS.opens; rw [a1, a2]
      have e2 : r1.nots = r2.nots := by unfold RS.nots; rw [a1, a2]
      cases ho : r2.opens with
      | true =>
        rw [factorF_open n1 h.b1 (e1.trans ho), factorF_open n2 h.b2 ho]
        rcases a3.cond (ih n1 (by omega)) with o | o | ⟨o, oa⟩
        · left; rw [if_neg (by rw [bad_is o]; decide)]; rfl
        · right; left; rw [if_neg (by rw [bad_is o]; decide)]; rfl
        · generalize condF n1 r1.pass = y1 at *
          generalize condF n2 r2.pass = y2 at *
          have i1 : y1.2.is 3 [41] = (decide (y1.2.nx.kind = 3) && decide (y1.2.nx.text = [41])) := by unfold RS.is; rw [o.b1]; rfl
          have i2 : y2.2.is 3 [41] = (decide (y2.2.nx.kind = 3) && decide (y2.2.nx.text = [41])) := by unfold RS.is; rw [o.b2]; rfl
          rcases o.cases with ⟨c1, c2, c3⟩ | ⟨c1, c2, c3⟩
          · left
            have : y1.2.is 3 [41] = false := by rw [i1, c1]; rfl
            rw [if_neg (by rw [this]; decide)]; rfl
          · rw [c1, c2, ← i2] at i1
            cases hi : y2.2.is 3 [41] with
            | false =>
              left
              rw [if_neg (by rw [i1, hi]; decide)]; rfl
            | true =>
              rw [hi] at i1
              rw [if_pos i1, if_pos rfl]
              have s1 : y1.2.isS 3 [41] = y1.2.pass := if_pos i1
              have s2 : y2.2.isS 3 [41] = y2.2.pass := if_pos hi
              rw [s1, s2]
              exact .inr (.inr ⟨c3, oa⟩)
      | false =>
        cases hno : r2.nots with
        | true =>
          rw [factorF_not n1 h.b1 (e1.trans ho) (e2.trans hno), factorF_not n2 h.b2 ho hno]
          rcases h.beg notT with ⟨g1, _⟩ | ⟨g1, _⟩ | ⟨g1, _, _, _⟩ | ⟨g1, g2, g3⟩
          · left; rw [if_neg (by rw [g1]; decide)]; rfl
          · right; left; rw [if_neg (by rw [g1]; decide)]; rfl
          · left; rw [if_neg (by rw [g1]; decide)]; rfl
          · rw [if_pos g1, if_pos g2]
            rcases ih n1 (by omega) _ _ g3 with o | o | ⟨o, oa⟩
            · left; exact bad_put o _
            · right; left; exact bad_put o _
            · exact o.put (by unfold shQ; rw [if_neg (show ¬ (3 : Int) = 4 by decide), if_pos rfl, oa])
        | false =>
          rw [factorF_test _ h.b1 (e1.trans ho) (e2.trans hno), factorF_test _ h.b2 ho hno]
          exact h.test
/-- A condition, in a place where no more parentheses may be about it. -/
theorem Sim.condition {pre : List Qn} {m : Sp} {r1 r2 : RS} {n1 n2 : Nat} (hn : n2 ≤ n1) (h : Sim pre m r1 r2) : Out3 pre m (condF n1 r1) (condF n2 r2) := h.cond fun _ _ h => Sim.factor n2 n1 hn _ _ h
/-- The node that stands for what was read is the last one. -/
def LastQ (y : Int × RS) : Prop := y.2.bad = false → y.2.l ≠ [] ∧ y.1 = (y.2.l.length : Int) - 1
theorem last_put (r : RS) (n : Qn) : LastQ (r.putI, r.put n) := by
  intro h
  cases hb : r.bad with
  | true => rw [show (r.putI, r.put n).2.bad = true from bad_put hb n] at h; cases h
  | false =>
    have p1 : r.put n = { r with l := r.l ++ [n] } := if_neg (by rw [hb]; decide)
    have p3 : r.putI = (r.l.length : Int) := if_neg (by rw [hb]; decide)
    rw [p1, p3]
    exact ⟨by simp, by simp⟩
theorem last_test (r : RS) : LastQ (testF r) := by
  unfold testF
  split
  · intro h; cases h
  · split
    · intro h; cases h
    · simp only
      split
      · intro h; cases h
      · exact last_put _ _
theorem begS_bad {r : RS} {w : List UInt8} (h : r.beg w = false) (g : (r.begS w).bad = false) : r.begS w = r := by
  unfold RS.begS at g ⊢
  split
  · rename_i hi
    rw [if_pos hi] at g
    split
    · rename_i h32; rw [if_pos h32] at g; cases g
    · rename_i h32
      unfold RS.beg at h
      rw [hi] at h
      simp at h
      exact absurd h h32
  · rfl
theorem last_chainL {w : List UInt8} {k : Int} {part : RS → Int × RS} : ∀ (n : Nat) (a : Int) (r : RS), LastQ (a, r) → LastQ (chainL w k part n a r)
  | 0, a, r, h => h
  | n + 1, a, r, h => by
    unfold chainL
    split
    · exact last_chainL n _ _ (last_put _ _)
    · rename_i hb
      intro g
      have e := begS_bad (by simpa using hb) g
      simp only at g ⊢
      rw [e] at g ⊢
      exact h g
theorem last_chainF {w : List UInt8} {k : Int} {part : RS → Int × RS} (hp : ∀ r, LastQ (part r)) (r : RS) : LastQ (chainF w k part r) := last_chainL _ _ _ (hp r)
theorem isS_bad {r : RS} {k : Int} {w : List UInt8} (h : r.is k w = true) : r.bad = false := by
  unfold RS.is at h
  cases hb : r.bad with
  | false => rfl
  | true => rw [hb] at h; cases h
theorem last_factor : ∀ (n : Nat) (r : RS), LastQ (factorF n r) := by
  intro n
  induction n with
  | zero =>
    intro r
    cases hb : r.bad with
    | true => rw [factorF_bad 0 hb]; intro h; simp only at h; rw [hb] at h; cases h
    | false =>
      cases ho : (r.opens || r.nots) with
      | true => rw [factorF_0 hb ho]; intro h; cases h
      | false =>
        rw [Bool.or_eq_false_iff] at ho
        rw [factorF_test 0 hb ho.1 ho.2]
        exact last_test r
  | succ n ih =>
    intro r
    cases hb : r.bad with
    | true => rw [factorF_bad _ hb]; intro h; simp only at h; rw [hb] at h; cases h
    | false =>
      cases ho : r.opens with
      | true =>
        rw [factorF_open n hb ho]
        have hl : LastQ (condF n r.pass) := last_chainF (last_chainF ih) r.pass
        split
        · rename_i hi
          intro g
          simp only at g ⊢
          rw [isS_l]
          exact hl (isS_bad hi)
        · intro g; cases g
      | false =>
        cases hno : r.nots with
        | true =>
          rw [factorF_not n hb ho hno]
          split
          · exact last_put _ _
          · intro g; cases g
        | false =>
          rw [factorF_test _ hb ho hno]
          exact last_test r
theorem last_cond (n : Nat) (r : RS) : LastQ (condF n r) := last_chainF (last_chainF (last_factor n)) r
end Go.Ev
end

/- Conditions in parentheses, queries of one condition, without a program. No condition. -/
noncomputable section
namespace Go.Ev
open Go.Proofs
variable [Lk]
set_option linter.unusedSectionVars false
set_option linter.unusedVariables false
set_option maxRecDepth 100000

theorem is_eq {r : RS} (hb : r.bad = false) (k : Int) (w : List UInt8) : r.is k w = (decide (r.nx.kind = k) && decide (r.nx.text = w)) := by unfold RS.is; rw [hb]; rfl
theorem is_kind {r : RS} {k : Int} {w : List UInt8} (h : r.nx.kind ≠ k) : r.is k w = false := by unfold RS.is; simp [h]
theorem beg_kind {r : RS} (w : List UInt8) (h : r.nx.kind ≠ 1) : r.beg w = false ∧ r.begS w = r := ⟨by unfold RS.beg; rw [is_kind h]; rfl, if_neg (by rw [is_kind h]; decide)⟩
/-- Where no word is next, a chain ends. -/
theorem chainL_stop {w : List UInt8} {k : Int} {part : RS → Int × RS} {n : Nat} {a : Int} {r : RS} (h : r.nx.kind ≠ 1) : chainL w k part n a r = (a, r) := by
  cases n with
  | zero => rfl
  | succ n =>
    unfold chainL
    rw [(beg_kind w h).1, (beg_kind w h).2, if_neg (by decide)]
theorem chainF_stop {w : List UInt8} {k : Int} {part : RS → Int × RS} {r : RS} (h : (part r).2.nx.kind ≠ 1) : chainF w k part r = part r := chainL_stop h
theorem condF_stop {n : Nat} {r : RS} (h : (factorF n r).2.nx.kind ≠ 1) : condF n r = factorF n r := by
  unfold condF
  have e : chainF andT 1 (factorF n) r = factorF n r := chainF_stop h
  rw [chainF_stop (by rw [e]; exact h), e]
theorem chainF_bad {w : List UInt8} {k : Int} {part : RS → Int × RS} {r : RS} (h : (part r).2.bad = true) : (chainF w k part r).2.bad = true := bad_chainL h _ _ _ _ _
theorem condF_bad {n : Nat} {r : RS} (h : (factorF n r).2.bad = true) : (condF n r).2.bad = true := chainF_bad (chainF_bad h)
/-- What a condition's text is read as, alone: A is its tokens. -/
structure Alone (A : List Tok) (e : Tok) (y : Int × RS) : Prop where
  e4 : e.kind = 4
  eq : condF 7 ⟨A ++ [e], [], 0, false⟩ = y
  ok : y.2.bad = false
  nx : y.2.nx.kind ≠ 3
/-- A condition in parentheses, in any place. -/
theorem paren {A : List Tok} {e : Tok} {y : Int × RS} (h : Alone A e y) {n : Nat} (hn : n ≤ 7) {A' : List Tok} (hA : A'.map kt = A.map kt) {o x : Tok} {v : List Tok} (ho : kt o = (3, [40])) (hx : kt x = (3, [41])) (hv : v ≠ []) (pre : List Qn) (m : Nat) :
    (factorF (n + 1) ⟨o :: (A' ++ x :: v), pre, m, false⟩).2.bad = true ∨
    (factorF (n + 1) ⟨o :: (A' ++ x :: v), pre, m, false⟩ = (y.1 + pre.length, ⟨v, pre ++ y.2.l.map (shQ pre.length), y.2.begun + m, false⟩) ∧ y.2.t = [e]) := by
  obtain ⟨e4, eq, ok, nx⟩ := h
  unfold kt at ho hx
  injection ho with ho1 ho2
  injection hx with hx1 hx2
  have hop : RS.opens ⟨o :: (A' ++ x :: v), pre, m, false⟩ = true := by
    unfold RS.opens
    show (decide (o.kind = 3) && decide (o.text = [40])) = true
    rw [ho1, ho2]; rfl
  rw [factorF_open n rfl hop]
  have hpass : RS.pass ⟨o :: (A' ++ x :: v), pre, m, false⟩ = ⟨A' ++ x :: v, pre, m, false⟩ := pass_t rfl rfl (by simp)
  rw [hpass]
  have hs : Sim pre ⟨m, e, x, v⟩ ⟨A ++ [e], [], 0, false⟩ ⟨A' ++ x :: v, pre, m, false⟩ := ⟨rfl, rfl, ⟨A, A', rfl, rfl, hA.symm, e4, hx1, hx2⟩, by simp, by simp⟩
  have hc := hs.condition (n1 := 7) (n2 := n) hn
  rw [eq] at hc
  generalize condF n ⟨A' ++ x :: v, pre, m, false⟩ = z at hc
  rcases hc with c | c | ⟨c, ca⟩
  · rw [ok] at c; cases c
  · left; rw [if_neg (by rw [bad_is c]; decide)]; rfl
  · rcases c.cases with ⟨d1, d2, d3⟩ | ⟨d1, d2, d3⟩
    · right
      have hi : z.2.is 3 [41] = true := by rw [is_eq c.b2, d2, d3]; rfl
      have hS : z.2.isS 3 [41] = z.2.pass := if_pos hi
      rw [if_pos hi, hS]
      obtain ⟨w1, w2, t1, t2, t3, t4, t5, t6⟩ := c.t
      simp only at t1 t2 t4 t5 t6
      have hw : w1 = [] := by
        cases w1 with
        | nil => rfl
        | cons q w1 =>
          exfalso
          cases w2 with
          | nil => simp at t3
          | cons q2 w2 =>
            rw [List.map_cons, List.map_cons] at t3
            injection t3 with t3 _
            unfold kt at t3
            injection t3 with t3 _
            have k1 : y.2.nx.kind = q.kind := by unfold RS.nx; rw [t1]; rfl
            have k2 : z.2.nx.kind = q2.kind := by unfold RS.nx; rw [t2]; rfl
            omega
      subst hw
      have hw2 : w2 = [] := by simpa using t3.symm
      subst hw2
      have hzp : z.2.pass = { z.2 with t := v } := pass_t c.b2 t2 hv
      rw [hzp]
      refine ⟨?_, t1⟩
      obtain ⟨z1, zt, zl, zb, zbad⟩ := z
      have c1 : zbad = false := c.b2
      have c2 : zl = pre ++ y.2.l.map (shQ pre.length) := c.l
      have c3 : zb = y.2.begun + m := c.m
      have c4 : z1 = y.1 + pre.length := ca
      subst c1 c2 c3 c4
      rfl
    · left
      have hi : z.2.is 3 [41] = false := is_kind (by rw [← d1]; exact nx)
      rw [if_neg (by rw [hi]; decide)]; rfl
end Go.Ev
end

/- Queries of conditions in parentheses, without a program. No condition. -/
noncomputable section
namespace Go.Ev
open Go.Proofs
variable [Lk]
set_option linter.unusedSectionVars false
set_option linter.unusedVariables false
set_option maxRecDepth 100000

theorem nx_cons (t : Tok) (w : List Tok) (l : List Qn) (n : Nat) (b : Bool) : (RS.mk (t :: w) l n b).nx = t := rfl
theorem kt_iff {t : Tok} {k : Int} {w : List UInt8} (h : kt t = (k, w)) : t.kind = k ∧ t.text = w := by
  unfold kt at h
  injection h with h1 h2
  exact ⟨h1, h2⟩
theorem is_kt {t : Tok} {k k' : Int} {w w' : List UInt8} (h : kt t = (k, w)) (v : List Tok) (l : List Qn) (n : Nat) : (RS.mk (t :: v) l n false).is k' w' = (decide (k = k') && decide (w = w')) := by
  obtain ⟨h1, h2⟩ := kt_iff h
  rw [is_eq rfl, nx_cons, h1, h2]
theorem isS_no {r : RS} {k : Int} {w : List UInt8} (h : r.is k w = false) : r.isS k w = r := if_neg (by rw [h]; decide)
theorem query_cond {t1 t2 : Tok} {X : List Tok} (h1 : kt t1 = (1, rowsT)) (h2 : kt t2 = (1, whereT)) (hX : X ≠ []) {y : Int × RS} (hy : condF 7 ⟨X, [], 0, false⟩ = y) :
    queryF ⟨t1 :: t2 :: X, [], 0, false⟩ = (⟨(q6F (q5F (y.2.isS 1 descT)).2).l, y.1, 0, false, y.2.is 1 descT, (q5F (y.2.isS 1 descT)).1⟩, q6F (q5F (y.2.isS 1 descT)).2) := by
  have a1 : RS.is ⟨t1 :: t2 :: X, [], 0, false⟩ 1 sumT = false := (is_kt h1 _ _ _).trans (by decide)
  have a2 : RS.is ⟨t1 :: t2 :: X, [], 0, false⟩ 1 rowsT = true := (is_kt h1 _ _ _).trans (by decide)
  have a3 : RS.is ⟨t2 :: X, [], 0, false⟩ 1 whereT = true := (is_kt h2 _ _ _).trans (by decide)
  have p1 : RS.pass ⟨t1 :: t2 :: X, [], 0, false⟩ = ⟨t2 :: X, [], 0, false⟩ := pass_t rfl rfl (by simp)
  have p2 : RS.pass ⟨t2 :: X, [], 0, false⟩ = ⟨X, [], 0, false⟩ := pass_t rfl rfl hX
  have s1 : RS.isS ⟨t1 :: t2 :: X, [], 0, false⟩ 1 sumT = ⟨t1 :: t2 :: X, [], 0, false⟩ := isS_no a1
  have s2 : RS.isS ⟨t1 :: t2 :: X, [], 0, false⟩ 1 rowsT = ⟨t2 :: X, [], 0, false⟩ := (if_pos a2).trans p1
  have s3 : RS.isS ⟨t2 :: X, [], 0, false⟩ 1 whereT = ⟨X, [], 0, false⟩ := (if_pos a3).trans p2
  have b1 : q1F ⟨t1 :: t2 :: X, [], 0, false⟩ = ⟨t2 :: X, [], 0, false⟩ := by
    unfold q1F
    rw [a1, s1, if_neg (by decide), a2, if_pos rfl, s2]
  have b2 : q2F ⟨t2 :: X, [], 0, false⟩ = y := by
    unfold q2F
    rw [a3, s3, if_pos rfl, hy]
  have b3 : q3F false y.2 = (0, y.2) := if_pos rfl
  unfold queryF
  simp only [a1, b1, b2, b3]
theorem q6_bad {r : RS} (h : r.bad = true) : (q6F r).bad = true := by
  unfold q6F
  split
  · rfl
  · exact h
theorem q5_bad {r : RS} (h : r.bad = true) : (q5F r).2.bad = true := by
  unfold q5F
  rw [bad_is h, if_pos rfl, isS_no (bad_is h 1 limitT)]
  exact h
theorem tail_bad {r : RS} (h : r.bad = true) : (q6F (q5F (r.isS 1 descT)).2).bad = true := by
  rw [isS_no (bad_is h 1 descT)]
  exact q6_bad (q5_bad h)
theorem tail_kind {r : RS} (h : r.nx.kind = 3) : (q6F (q5F (r.isS 1 descT)).2).bad = true := by
  have n1 : r.is 1 descT = false := is_kind (by rw [h]; decide)
  have n2 : r.is 1 limitT = false := is_kind (by rw [h]; decide)
  have e : q5F r = (0, r) := by unfold q5F; rw [n2, if_pos rfl, isS_no n2]
  rw [isS_no n1, e]
  unfold q6F
  split
  · rfl
  · rename_i g
    cases hb : r.bad with
    | true => rfl
    | false => exact absurd ⟨hb, by rw [h]; decide⟩ g
theorem tail_end {r : RS} (hb : r.bad = false) {e : Tok} (h : r.t = [e]) (he : e.kind = 4) : r.is 1 descT = false ∧ q5F (r.isS 1 descT) = (0, r) ∧ q6F r = r := by
  have hn : r.nx.kind = 4 := by unfold RS.nx; rw [h]; exact he
  have n1 : r.is 1 descT = false := is_kind (by rw [hn]; decide)
  have n2 : r.is 1 limitT = false := is_kind (by rw [hn]; decide)
  refine ⟨n1, by rw [isS_no n1]; unfold q5F; rw [n2, if_pos rfl, isS_no n2], ?_⟩
  unfold q6F
  rw [if_neg (fun g => g.2 hn)]
/-- Of a query: its text is read. -/
theorem readQ_ok {s : List UInt8} {ts : List Tok} (h : tokR s = .inl ts) (g : (readQ s).2.2 = 0) : (queryF ⟨ts, [], 0, false⟩).2.bad = false ∧ (readQ s).1 = (queryF ⟨ts, [], 0, false⟩).1 := by
  unfold readQ at g ⊢
  rw [h] at g ⊢
  simp only at g ⊢
  cases hb : (queryF ⟨ts, [], 0, false⟩).2.bad with
  | true => rw [if_pos hb] at g; cases g
  | false => exact ⟨rfl, by rw [if_neg (by decide)]⟩
theorem alone {s : List UInt8} {t1 t2 e : Tok} {A : List Tok} (h : tokR s = .inl (t1 :: t2 :: (A ++ [e]))) (h1 : kt t1 = (1, rowsT)) (h2 : kt t2 = (1, whereT)) (he : e.kind = 4) (g : (readQ s).2.2 = 0) :
    ∃ y, Alone A e y ∧ (readQ s).1.nodes = y.2.l ∧ (readQ s).1.root = y.1 ∧ (y.2.t = [e] → (readQ s).1 = ⟨y.2.l, y.1, 0, false, false, 0⟩) := by
  obtain ⟨g1, g2⟩ := readQ_ok h g
  generalize hy : condF 7 ⟨A ++ [e], [], 0, false⟩ = y
  rw [query_cond h1 h2 (by simp) hy] at g1 g2
  have hb : y.2.bad = false := by
    cases hb : y.2.bad with
    | false => rfl
    | true => rw [show (q6F (q5F (y.2.isS 1 descT)).2).bad = true from tail_bad hb] at g1; cases g1
  refine ⟨y, ⟨he, hy, hb, fun hk => ?_⟩, ?_, ?_, fun ht => ?_⟩
  · rw [show (q6F (q5F (y.2.isS 1 descT)).2).bad = true from tail_kind hk] at g1; cases g1
  · rw [g2]; show (q6F (q5F (y.2.isS 1 descT)).2).l = _; rw [q6F_l, q5F_l, isS_l]
  · rw [g2]
  · obtain ⟨e1, e2, e3⟩ := tail_end hb ht he
    rw [g2, e1, e2, e3]
/-- A query of one condition that is read to its end. -/
theorem whole_q {s : List UInt8} {t1 t2 e : Tok} {X : List Tok} (h : tokR s = .inl (t1 :: t2 :: X)) (h1 : kt t1 = (1, rowsT)) (h2 : kt t2 = (1, whereT)) (hX : X ≠ []) (he : e.kind = 4) (g : (readQ s).2.2 = 0) {y : Int × RS}
    (hy : (condF 7 ⟨X, [], 0, false⟩).2.bad = true ∨ (condF 7 ⟨X, [], 0, false⟩ = y ∧ y.2.bad = false ∧ y.2.t = [e])) : (readQ s).1 = ⟨y.2.l, y.1, 0, false, false, 0⟩ := by
  obtain ⟨g1, g2⟩ := readQ_ok h g
  rw [query_cond h1 h2 hX rfl] at g1 g2
  rcases hy with hb | ⟨hy, hb, ht⟩
  · rw [show (q6F (q5F ((condF 7 ⟨X, [], 0, false⟩).2.isS 1 descT)).2).bad = true from tail_bad hb] at g1; cases g1
  · rw [hy] at g2
    obtain ⟨e1, e2, e3⟩ := tail_end hb ht he
    rw [g2, e1, e2, e3]
theorem shQ_zero (l : List Qn) : l.map (shQ 0) = l := by
  have : ∀ n : Qn, shQ 0 n = n := fun n => by
    unfold shQ
    obtain ⟨k, f, s, v, a, b⟩ := n
    split
    · rfl
    · split <;> simp
  induction l with
  | nil => rfl
  | cons n l ih => rw [List.map_cons, this, ih]
end Go.Ev
end

/- Queries: ( ( c ) ), not ( c ), not not ( c ), ( a ) and ( b ), ( a ) or ( b ). No condition. -/
noncomputable section
namespace Go.Ev
open Go.Proofs
variable [Lk]
set_option linter.unusedSectionVars false
set_option linter.unusedVariables false
set_option maxRecDepth 100000

theorem beg_step {t : Tok} {w : List UInt8} {X : List Tok} {l : List Qn} {n : Nat} (ht : kt t = (1, w)) (hX : X ≠ []) :
    (RS.beg ⟨t :: X, l, n, false⟩ w = false ∧ (RS.begS ⟨t :: X, l, n, false⟩ w).bad = true) ∨ (RS.beg ⟨t :: X, l, n, false⟩ w = true ∧ RS.begS ⟨t :: X, l, n, false⟩ w = ⟨X, l, n + 1, false⟩) := by
  have hi : RS.is ⟨t :: X, l, n, false⟩ 1 w = true := (is_kt ht _ _ _).trans (by simp)
  by_cases h : n = 32
  · left
    subst h
    refine ⟨by unfold RS.beg; rw [hi]; rfl, ?_⟩
    unfold RS.begS; rw [if_pos hi, if_pos rfl]; rfl
  · right
    refine ⟨by unfold RS.beg; rw [hi]; simp [h], ?_⟩
    unfold RS.begS; rw [if_pos hi, if_neg h]
    exact pass_t rfl rfl hX
theorem put_ok (X : List Tok) (l : List Qn) (n : Nat) (q : Qn) : RS.put ⟨X, l, n, false⟩ q = ⟨X, l ++ [q], n, false⟩ ∧ RS.putI ⟨X, l, n, false⟩ = (l.length : Int) := ⟨if_neg Bool.false_ne_true, if_neg Bool.false_ne_true⟩
theorem not_step {t : Tok} {X : List Tok} {l : List Qn} {n k : Nat} (ht : kt t = (1, notT)) (hX : X ≠ []) :
    ((factorF k ⟨X, l, n + 1, false⟩).2.bad = true → (factorF (k + 1) ⟨t :: X, l, n, false⟩).2.bad = true) ∧
    ∀ a v l' n', factorF k ⟨X, l, n + 1, false⟩ = (a, ⟨v, l', n', false⟩) → (factorF (k + 1) ⟨t :: X, l, n, false⟩).2.bad = true ∨ factorF (k + 1) ⟨t :: X, l, n, false⟩ = ((l'.length : Int), ⟨v, l' ++ [⟨3, 0, [], Dc.zero, a, 0⟩], n', false⟩) := by
  obtain ⟨h1, h2⟩ := kt_iff ht
  have hop : RS.opens ⟨t :: X, l, n, false⟩ = false := by
    unfold RS.opens
    show (decide (t.kind = 3) && decide (t.text = [40])) = false
    rw [h1]; rfl
  have hno : RS.nots ⟨t :: X, l, n, false⟩ = true := by
    unfold RS.nots
    show (decide (t.kind = 1) && decide (t.text = notT)) = true
    rw [h1, h2]; rfl
  rw [factorF_not k rfl hop hno]
  rcases beg_step ht hX (l := l) (n := n) with ⟨b1, b2⟩ | ⟨b1, b2⟩
  · rw [if_neg (by rw [b1]; decide)]
    exact ⟨fun _ => rfl, fun _ _ _ _ _ => .inl rfl⟩
  · rw [if_pos b1, b2]
    refine ⟨fun h => bad_put h _, fun a v l' n' h => ?_⟩
    right
    rw [h]
    obtain ⟨p1, p2⟩ := put_ok v l' n' ⟨3, 0, [], Dc.zero, a, 0⟩
    simp only [p1, p2]
section
variable {A : List Tok} {e : Tok} {y : Int × RS}
theorem paren0 (h : Alone A e y) {n : Nat} (hn : n ≤ 7) {A' : List Tok} (hA : A'.map kt = A.map kt) {o x : Tok} {v : List Tok} (ho : kt o = (3, [40])) (hx : kt x = (3, [41])) (hv : v ≠ []) (m : Nat) :
    (factorF (n + 1) ⟨o :: (A' ++ x :: v), [], m, false⟩).2.bad = true ∨ (factorF (n + 1) ⟨o :: (A' ++ x :: v), [], m, false⟩ = (y.1, ⟨v, y.2.l, y.2.begun + m, false⟩) ∧ y.2.t = [e]) := by
  rcases paren h hn hA ho hx hv [] m with g | ⟨g, gt⟩
  · exact .inl g
  · right
    rw [g]
    simp only [List.length_nil, List.nil_append, shQ_zero]
    exact ⟨by rw [show y.1 + ((0 : Nat) : Int) = y.1 by omega], gt⟩
theorem q_not (h : Alone A e y) {A' : List Tok} (hA : A'.map kt = A.map kt) {t o x e' : Tok} (h0 : kt t = (1, notT)) (h1 : kt o = (3, [40])) (h3 : kt x = (3, [41])) (he : e'.kind = 4) :
    (condF 7 ⟨t :: o :: (A' ++ x :: [e']), [], 0, false⟩).2.bad = true ∨ (condF 7 ⟨t :: o :: (A' ++ x :: [e']), [], 0, false⟩ = ((y.2.l.length : Int), ⟨[e'], y.2.l ++ [⟨3, 0, [], Dc.zero, y.1, 0⟩], y.2.begun + 1, false⟩) ∧ y.2.t = [e]) := by
  obtain ⟨s1, s2⟩ := not_step (k := 6) (l := []) (n := 0) h0 (X := o :: (A' ++ x :: [e'])) (by simp)
  rcases paren0 h (n := 5) (by omega) hA h1 h3 (v := [e']) (by simp) 1 with g | ⟨g, gt⟩
  · exact .inl (condF_bad (s1 g))
  · rcases s2 _ _ _ _ g with q | q
    · exact .inl (condF_bad q)
    · right
      refine ⟨?_, gt⟩
      rw [condF_stop (by rw [q]; show e'.kind ≠ 1; rw [he]; decide)]; exact q
end
/-- Two conditions in parentheses with a word between. -/
theorem q_and {A B : List Tok} {e1 e2 : Tok} {ya yb : Int × RS} (ha : Alone A e1 ya) (hb : Alone B e2 yb) {A' B' : List Tok} (hA : A'.map kt = A.map kt) (hB : B'.map kt = B.map kt) {o x w o2 x2 e' : Tok}
    (h1 : kt o = (3, [40])) (h2 : kt x = (3, [41])) (h3 : kt w = (1, andT)) (h4 : kt o2 = (3, [40])) (h5 : kt x2 = (3, [41])) (he : e'.kind = 4) :
    (condF 7 ⟨o :: (A' ++ x :: w :: o2 :: (B' ++ x2 :: [e'])), [], 0, false⟩).2.bad = true ∨
    (∃ n, condF 7 ⟨o :: (A' ++ x :: w :: o2 :: (B' ++ x2 :: [e'])), [], 0, false⟩ = (((ya.2.l ++ yb.2.l.map (shQ ya.2.l.length)).length : Int), ⟨[e'], ya.2.l ++ yb.2.l.map (shQ ya.2.l.length) ++ [⟨1, 0, [], Dc.zero, ya.1, yb.1 + (ya.2.l.length : Int)⟩], n, false⟩)) ∧ ya.2.t = [e1] ∧ yb.2.t = [e2] := by
  have hke : e'.kind ≠ 1 := by rw [he]; decide
  rcases paren0 ha (n := 6) (by omega) hA h1 h2 (v := w :: o2 :: (B' ++ x2 :: [e'])) (by simp) 0 with g | ⟨g, gt⟩
  · exact .inl (condF_bad g)
  · have hin : chainF andT 1 (factorF 7) ⟨o :: (A' ++ x :: w :: o2 :: (B' ++ x2 :: [e'])), [], 0, false⟩ = chainL andT 1 (factorF 7) 33 ya.1 ⟨w :: o2 :: (B' ++ x2 :: [e']), ya.2.l, ya.2.begun + 0, false⟩ := by
      unfold chainF; rw [g]
    have hc1 : chainL andT 1 (factorF 7) 33 ya.1 ⟨w :: o2 :: (B' ++ x2 :: [e']), ya.2.l, ya.2.begun + 0, false⟩ = if RS.beg ⟨w :: o2 :: (B' ++ x2 :: [e']), ya.2.l, ya.2.begun + 0, false⟩ andT = true then chainL andT 1 (factorF 7) 32 (factorF 7 (RS.begS ⟨w :: o2 :: (B' ++ x2 :: [e']), ya.2.l, ya.2.begun + 0, false⟩ andT)).2.putI ((factorF 7 (RS.begS ⟨w :: o2 :: (B' ++ x2 :: [e']), ya.2.l, ya.2.begun + 0, false⟩ andT)).2.put ⟨1, 0, [], Dc.zero, ya.1, (factorF 7 (RS.begS ⟨w :: o2 :: (B' ++ x2 :: [e']), ya.2.l, ya.2.begun + 0, false⟩ andT)).1⟩) else (ya.1, RS.begS ⟨w :: o2 :: (B' ++ x2 :: [e']), ya.2.l, ya.2.begun + 0, false⟩ andT) := rfl
    rcases beg_step h3 (X := o2 :: (B' ++ x2 :: [e'])) (by simp) (l := ya.2.l) (n := ya.2.begun + 0) with ⟨b1, b2⟩ | ⟨b1, b2⟩
    · left
      rw [if_neg (by rw [b1]; decide)] at hc1
      unfold condF
      refine chainF_bad ?_
      rw [hin, hc1]; exact b2
    · rw [if_pos b1, b2] at hc1
      rcases paren hb (n := 6) (by omega) hB h4 h5 (v := [e']) (by simp) ya.2.l (ya.2.begun + 0 + 1) with q | ⟨q, qt⟩
      · left
        unfold condF
        refine chainF_bad ?_
        rw [hin, hc1]; exact bad_chainL (bad_put q _) _ _ _ _ _
      · right
        refine ⟨⟨yb.2.begun + (ya.2.begun + 0 + 1), ?_⟩, gt, qt⟩
        rw [q] at hc1
        obtain ⟨p1, p2⟩ := put_ok [e'] (ya.2.l ++ yb.2.l.map (shQ ya.2.l.length)) (yb.2.begun + (ya.2.begun + 0 + 1)) ⟨1, 0, [], Dc.zero, ya.1, yb.1 + (ya.2.l.length : Int)⟩
        simp only [p1, p2] at hc1
        replace hc1 := hc1.trans (chainL_stop hke)
        unfold condF
        rw [chainF_stop (by rw [hin, hc1]; exact hke), hin, hc1]
theorem q_or {A B : List Tok} {e1 e2 : Tok} {ya yb : Int × RS} (ha : Alone A e1 ya) (hb : Alone B e2 yb) {A' B' : List Tok} (hA : A'.map kt = A.map kt) (hB : B'.map kt = B.map kt) {o x w o2 x2 e' : Tok}
    (h1 : kt o = (3, [40])) (h2 : kt x = (3, [41])) (h3 : kt w = (1, orT)) (h4 : kt o2 = (3, [40])) (h5 : kt x2 = (3, [41])) (he : e'.kind = 4) :
    (condF 7 ⟨o :: (A' ++ x :: w :: o2 :: (B' ++ x2 :: [e'])), [], 0, false⟩).2.bad = true ∨
    (∃ n, condF 7 ⟨o :: (A' ++ x :: w :: o2 :: (B' ++ x2 :: [e'])), [], 0, false⟩ = (((ya.2.l ++ yb.2.l.map (shQ ya.2.l.length)).length : Int), ⟨[e'], ya.2.l ++ yb.2.l.map (shQ ya.2.l.length) ++ [⟨2, 0, [], Dc.zero, ya.1, yb.1 + (ya.2.l.length : Int)⟩], n, false⟩)) ∧ ya.2.t = [e1] ∧ yb.2.t = [e2] := by
  have hke : e'.kind ≠ 1 := by rw [he]; decide
  rcases paren0 ha (n := 6) (by omega) hA h1 h2 (v := w :: o2 :: (B' ++ x2 :: [e'])) (by simp) 0 with g | ⟨g, gt⟩
  · exact .inl (condF_bad g)
  · have hno : RS.is ⟨w :: o2 :: (B' ++ x2 :: [e']), ya.2.l, ya.2.begun + 0, false⟩ 1 andT = false := (is_kt h3 _ _ _).trans (by decide)
    have hb0 : RS.beg ⟨w :: o2 :: (B' ++ x2 :: [e']), ya.2.l, ya.2.begun + 0, false⟩ andT = false := by unfold RS.beg; rw [hno]; rfl
    have hs0 : RS.begS ⟨w :: o2 :: (B' ++ x2 :: [e']), ya.2.l, ya.2.begun + 0, false⟩ andT = ⟨w :: o2 :: (B' ++ x2 :: [e']), ya.2.l, ya.2.begun + 0, false⟩ := if_neg (by rw [hno]; decide)
    have hin : chainF andT 1 (factorF 7) ⟨o :: (A' ++ x :: w :: o2 :: (B' ++ x2 :: [e'])), [], 0, false⟩ = (ya.1, ⟨w :: o2 :: (B' ++ x2 :: [e']), ya.2.l, ya.2.begun + 0, false⟩) := by
      unfold chainF; rw [g]
      show (if RS.beg ⟨w :: o2 :: (B' ++ x2 :: [e']), ya.2.l, ya.2.begun + 0, false⟩ andT = true then _ else (ya.1, RS.begS ⟨w :: o2 :: (B' ++ x2 :: [e']), ya.2.l, ya.2.begun + 0, false⟩ andT)) = _
      rw [if_neg (by rw [hb0]; decide), hs0]
    have hout : condF 7 ⟨o :: (A' ++ x :: w :: o2 :: (B' ++ x2 :: [e'])), [], 0, false⟩ = chainL orT 2 (chainF andT 1 (factorF 7)) 33 ya.1 ⟨w :: o2 :: (B' ++ x2 :: [e']), ya.2.l, ya.2.begun + 0, false⟩ := by
      show chainL orT 2 (chainF andT 1 (factorF 7)) 33 (chainF andT 1 (factorF 7) _).1 (chainF andT 1 (factorF 7) _).2 = _
      rw [hin]
    rw [hout]
    have hc1 : chainL orT 2 (chainF andT 1 (factorF 7)) 33 ya.1 ⟨w :: o2 :: (B' ++ x2 :: [e']), ya.2.l, ya.2.begun + 0, false⟩ = if RS.beg ⟨w :: o2 :: (B' ++ x2 :: [e']), ya.2.l, ya.2.begun + 0, false⟩ orT = true then chainL orT 2 (chainF andT 1 (factorF 7)) 32 (chainF andT 1 (factorF 7) (RS.begS ⟨w :: o2 :: (B' ++ x2 :: [e']), ya.2.l, ya.2.begun + 0, false⟩ orT)).2.putI ((chainF andT 1 (factorF 7) (RS.begS ⟨w :: o2 :: (B' ++ x2 :: [e']), ya.2.l, ya.2.begun + 0, false⟩ orT)).2.put ⟨2, 0, [], Dc.zero, ya.1, (chainF andT 1 (factorF 7) (RS.begS ⟨w :: o2 :: (B' ++ x2 :: [e']), ya.2.l, ya.2.begun + 0, false⟩ orT)).1⟩) else (ya.1, RS.begS ⟨w :: o2 :: (B' ++ x2 :: [e']), ya.2.l, ya.2.begun + 0, false⟩ orT) := rfl
    rcases beg_step h3 (X := o2 :: (B' ++ x2 :: [e'])) (by simp) (l := ya.2.l) (n := ya.2.begun + 0) with ⟨b1, b2⟩ | ⟨b1, b2⟩
    · left
      rw [if_neg (by rw [b1]; decide)] at hc1
      rw [hc1]; exact b2
    · rw [if_pos b1, b2] at hc1
      rcases paren hb (n := 6) (by omega) hB h4 h5 (v := [e']) (by simp) ya.2.l (ya.2.begun + 0 + 1) with q | ⟨q, qt⟩
      · left
        rw [hc1]; exact bad_chainL (bad_put (chainF_bad q) _) _ _ _ _ _
      · right
        have hq : chainF andT 1 (factorF 7) ⟨o2 :: (B' ++ x2 :: [e']), ya.2.l, ya.2.begun + 0 + 1, false⟩ = (yb.1 + (ya.2.l.length : Int), ⟨[e'], ya.2.l ++ yb.2.l.map (shQ ya.2.l.length), yb.2.begun + (ya.2.begun + 0 + 1), false⟩) := by
          rw [chainF_stop (by rw [q]; exact hke)]; exact q
        refine ⟨⟨yb.2.begun + (ya.2.begun + 0 + 1), ?_⟩, gt, qt⟩
        rw [hq] at hc1
        obtain ⟨p1, p2⟩ := put_ok [e'] (ya.2.l ++ yb.2.l.map (shQ ya.2.l.length)) (yb.2.begun + (ya.2.begun + 0 + 1)) ⟨2, 0, [], Dc.zero, ya.1, yb.1 + (ya.2.l.length : Int)⟩
        simp only [p1, p2] at hc1
        replace hc1 := hc1.trans (chainL_stop hke)
        exact hc1
end Go.Ev
end

/- Tokens of texts that are joined by blanks, without a program. No condition. -/
noncomputable section
namespace Go.Ev
open Go.Proofs
variable [Lk]
set_option linter.unusedSectionVars false
set_option linter.unusedVariables false
set_option maxRecDepth 100000

def joinB : List (List UInt8) → List UInt8
  | [] => []
  | [s] => s
  | s :: t :: ss => s ++ 32 :: joinB (t :: ss)
/-- A text has these tokens, and an end. -/
def Lexed (s : List UInt8) (us : List Tok) : Prop := lexF s 0 = .inl (us ++ [⟨4, [], s.length⟩])
theorem lexed_of {s : List UInt8} {ts : List Tok} (h : lexF s 0 = .inl ts) : ∃ us, ts = us ++ [⟨4, [], s.length⟩] := by
  obtain ⟨us, h1, -⟩ := (lex_stop [] s [] (s.length) 0 (by omega) (Nat.zero_le _)).2 ts h
  exact ⟨us, h1⟩
theorem kt_sh (us : List Tok) (n : Nat) : (us.map (Tok.sh n)).map kt = us.map kt := by rw [List.map_map]; rfl
theorem lex_seg {s : List UInt8} {us : List Tok} (h : Lexed s us) (Q R : List UInt8) : lexF (Q ++ (s ++ 32 :: R)) Q.length = afterR (us.map (Tok.sh Q.length)) (lexF ((Q ++ s ++ [32]) ++ R) (Q ++ s ++ [32]).length) := by
  obtain ⟨us', h1, h2⟩ := (lex_stop Q s R (s.length) 0 (by omega) (Nat.zero_le _)).2 _ h
  have hu : us' = us := (List.append_cancel_right h1).symm
  subst hu
  rw [Nat.add_zero] at h2
  rw [h2]
  have hd : (Q ++ (s ++ 32 :: R)).drop (Q.length + s.length) = 32 :: R := by simp [List.drop_append]
  rw [lexF_blank hd rfl]
  congr 2
  · simp
  · simp; omega
theorem qlex_join : ∀ (ps : List (List UInt8 × List Tok)), (∀ p ∈ ps, Lexed p.1 p.2) → ps ≠ [] → ∀ Q : List UInt8, ∃ V E, lexF (Q ++ joinB (ps.map (·.1))) Q.length = .inl (V ++ [E]) ∧ V.map kt = ps.flatMap (fun p => p.2.map kt) ∧ E.kind = 4
  | [], _, h, _ => absurd rfl h
  | [p], hp, _, Q => by
    have h := hp p (by simp)
    have := lex_suffix Q p.1 p.1.length 0 (by omega) (Nat.zero_le _) _ h
    rw [Nat.add_zero, List.map_append] at this
    exact ⟨p.2.map (Tok.sh Q.length), _, this, by rw [kt_sh]; simp, rfl⟩
  | p :: q :: ps, hp, _, Q => by
    have h := hp p (by simp)
    obtain ⟨V, E, h1, h2, h3⟩ := qlex_join (q :: ps) (fun x hx => hp x (by simp at hx ⊢; exact .inr hx)) (by simp) (Q ++ p.1 ++ [32])
    refine ⟨p.2.map (Tok.sh Q.length) ++ V, E, ?_, ?_, h3⟩
    · show lexF (Q ++ (p.1 ++ 32 :: joinB ((q :: ps).map (·.1)))) Q.length = _
      rw [lex_seg h, h1]
      simp [afterR]
    · rw [List.map_append, kt_sh, h2]; rfl
theorem lex_fail {s : List UInt8} {k : Nat} (h : lexF s 0 = .inr k) (Q R : List UInt8) : ∃ k', lexF (Q ++ (s ++ 32 :: R)) Q.length = .inr k' := by
  have := (lex_stop Q s R (s.length) 0 (by omega) (Nat.zero_le _)).1 _ h
  exact ⟨_, this⟩
theorem lex_seg_fail {s : List UInt8} {us : List Tok} (h : Lexed s us) {Q R : List UInt8} (g : ∃ k, lexF ((Q ++ s ++ [32]) ++ R) (Q ++ s ++ [32]).length = .inr k) : ∃ k, lexF (Q ++ (s ++ 32 :: R)) Q.length = .inr k := by
  obtain ⟨k, g⟩ := g
  rw [lex_seg h, g]
  exact ⟨k, rfl⟩
theorem readQ_tok {s : List UInt8} (g : (readQ s).2.2 = 0) : ∃ us, Lexed s us ∧ tokR s = .inl (us ++ [⟨4, [], s.length⟩]) := by
  unfold readQ at g
  cases h : tokR s with
  | inr k => rw [h] at g; cases g
  | inl ts =>
    have h' := h
    unfold tokR at h'
    split at h'
    · cases h'
    · obtain ⟨us, rfl⟩ := lexed_of h'
      exact ⟨us, h', rfl⟩
theorem tokR_of {s : List UInt8} (g : (readQ s).2.2 = 0) {ts : List Tok} (h : lexF s 0 = .inl ts) : tokR s = .inl ts := by
  obtain ⟨us, h1, h2⟩ := readQ_tok g
  rw [h2, ← h, ← h1]
/-- "rows where"; "("; .. -/
def p0 : List UInt8 := rowsT ++ 32 :: whereT
def p1 : List UInt8 := p0 ++ [32, 40]
def p2 : List UInt8 := p0 ++ [32, 40, 32, 40]
def pNot : List UInt8 := p0 ++ [32, 110, 111, 116, 32, 40]
def c1 : List UInt8 := [41]
def c2 : List UInt8 := [41, 32, 41]
def mAnd : List UInt8 := [41, 32, 97, 110, 100, 32, 40]
def mOr : List UInt8 := [41, 32, 111, 114, 32, 40]
theorem lx0 : Lexed p0 [⟨1, rowsT, 0⟩, ⟨1, whereT, 5⟩] := by unfold Lexed; kernel_rfl
theorem lx1 : Lexed p1 [⟨1, rowsT, 0⟩, ⟨1, whereT, 5⟩, ⟨3, [40], 11⟩] := by unfold Lexed; kernel_rfl
theorem lxNot : Lexed pNot [⟨1, rowsT, 0⟩, ⟨1, whereT, 5⟩, ⟨1, notT, 11⟩, ⟨3, [40], 15⟩] := by unfold Lexed; kernel_rfl
theorem lxc1 : Lexed c1 [⟨3, [41], 0⟩] := by unfold Lexed; kernel_rfl
theorem lxAnd : Lexed mAnd [⟨3, [41], 0⟩, ⟨1, andT, 2⟩, ⟨3, [40], 6⟩] := by unfold Lexed; kernel_rfl
theorem lxOr : Lexed mOr [⟨3, [41], 0⟩, ⟨1, orT, 2⟩, ⟨3, [40], 5⟩] := by unfold Lexed; kernel_rfl
end Go.Ev
end

/- What queries of conditions in parentheses are read as, by their texts. No condition. -/
noncomputable section
namespace Go.Ev
open Go.Proofs
variable [Lk]
set_option linter.unusedSectionVars false
set_option linter.unusedVariables false
set_option maxRecDepth 100000

def tA (a : List UInt8) : List UInt8 := p0 ++ 32 :: a
def tAnd (a b : List UInt8) : List UInt8 := p1 ++ 32 :: (a ++ 32 :: (mAnd ++ 32 :: (b ++ 32 :: c1)))
def tOr (a b : List UInt8) : List UInt8 := p1 ++ 32 :: (a ++ 32 :: (mOr ++ 32 :: (b ++ 32 :: c1)))
def tNot (a : List UInt8) : List UInt8 := pNot ++ 32 :: (a ++ 32 :: c1)
theorem map_cons_inv {V : List Tok} {x : Int × List UInt8} {l : List (Int × List UInt8)} (h : V.map kt = x :: l) : ∃ t W, V = t :: W ∧ kt t = x ∧ W.map kt = l := by
  cases V with
  | nil => cases h
  | cons t W =>
    rw [List.map_cons] at h
    injection h with h1 h2
    exact ⟨t, W, rfl, h1, h2⟩
theorem map_app_inv : ∀ {V : List Tok} {l1 l2 : List (Int × List UInt8)}, V.map kt = l1 ++ l2 → ∃ A B, V = A ++ B ∧ A.map kt = l1 ∧ B.map kt = l2
  | V, [], l2, h => ⟨[], V, rfl, rfl, h⟩
  | V, x :: l1, l2, h => by
    obtain ⟨t, W, rfl, h1, h2⟩ := map_cons_inv h
    obtain ⟨A, B, rfl, h3, h4⟩ := map_app_inv h2
    exact ⟨t :: A, B, rfl, by rw [List.map_cons, h1, h3], h4⟩
theorem not_inr {s : List UInt8} (g : (readQ s).2.2 = 0) {k : Nat} (h : lexF s 0 = .inr k) : False := by
  obtain ⟨us, h1, -⟩ := readQ_tok g
  unfold Lexed at h1
  rw [h1] at h; cases h
/-- A text behind one that has tokens, with a blank behind it. -/
theorem lexed_mid {p a R : List UInt8} {us : List Tok} (hp : Lexed p us) (g : (readQ (p ++ 32 :: (a ++ 32 :: R))).2.2 = 0) : ∃ ua, Lexed a ua := by
  cases h : lexF a 0 with
  | inl ts => obtain ⟨ua, rfl⟩ := lexed_of h; exact ⟨ua, h⟩
  | inr k =>
    exfalso
    obtain ⟨k', e⟩ := lex_seg_fail hp (Q := []) (R := a ++ 32 :: R) (lex_fail h ([] ++ p ++ [32]) R)
    exact not_inr g e
theorem alone_text {a : List UInt8} {ua : List Tok} (ha : Lexed a ua) (g : (readQ (tA a)).2.2 = 0) :
    ∃ A E y, A.map kt = ua.map kt ∧ Alone A E y ∧ (readQ (tA a)).1.nodes = y.2.l ∧ (readQ (tA a)).1.root = y.1 ∧ (y.2.t = [E] → (readQ (tA a)).1 = ⟨y.2.l, y.1, 0, false, false, 0⟩) := by
  obtain ⟨V, E, h1, h2, h3⟩ := qlex_join [(p0, _), (a, ua)] (by simp; exact ⟨lx0, ha⟩) (by simp) []
  have h1 : lexF (tA a) 0 = .inl (V ++ [E]) := h1
  have h2 : V.map kt = (1, rowsT) :: (1, whereT) :: (ua.map kt) := by rw [h2]; simp [kt]
  obtain ⟨t1, W, rfl, k1, h2⟩ := map_cons_inv h2
  obtain ⟨t2, A, rfl, k2, h2⟩ := map_cons_inv h2
  obtain ⟨y, y1, y2, y3, y4⟩ := alone (A := A) (e := E) (by have := tokR_of g h1; simpa using this) k1 k2 h3 g
  exact ⟨A, E, y, h2, y1, y2, y3, y4⟩
theorem not_text {a : List UInt8} {ua : List Tok} (ha : Lexed a ua) {A : List Tok} {E : Tok} {y : Int × RS} (hA : A.map kt = ua.map kt) (hy : Alone A E y) (g : (readQ (tNot a)).2.2 = 0) :
    (readQ (tNot a)).1 = ⟨y.2.l ++ [⟨3, 0, [], Dc.zero, y.1, 0⟩], (y.2.l.length : Int), 0, false, false, 0⟩ := by
  obtain ⟨V, e', h1, h2, h3⟩ := qlex_join [(pNot, _), (a, ua), (c1, _)] (by simp; exact ⟨lxNot, ha, lxc1⟩) (by simp) []
  have h1 : lexF (tNot a) 0 = .inl (V ++ [e']) := h1
  have h2 : V.map kt = (1, rowsT) :: (1, whereT) :: (1, notT) :: (3, [40]) :: (ua.map kt ++ [(3, [41])]) := by rw [h2]; simp [kt]
  obtain ⟨t1, W, rfl, k1, h2⟩ := map_cons_inv h2
  obtain ⟨t2, W, rfl, k2, h2⟩ := map_cons_inv h2
  obtain ⟨t3, W, rfl, k3, h2⟩ := map_cons_inv h2
  obtain ⟨t4, W, rfl, k4, h2⟩ := map_cons_inv h2
  obtain ⟨A', W, rfl, hA', h2⟩ := map_app_inv h2
  obtain ⟨x, W, rfl, k5, h2⟩ := map_cons_inv h2
  obtain rfl : W = [] := by simpa using h2
  have ht : tokR (tNot a) = .inl (t1 :: t2 :: (t3 :: t4 :: (A' ++ x :: [e']))) := by have := tokR_of g h1; simpa using this
  refine whole_q ht k1 k2 (by simp) h3 g (y := ((y.2.l.length : Int), ⟨[e'], y.2.l ++ [⟨3, 0, [], Dc.zero, y.1, 0⟩], y.2.begun + 1, false⟩)) ?_
  rcases q_not hy (hA'.trans hA.symm) k3 k4 k5 h3 with q | ⟨q, _⟩
  · exact .inl q
  · exact .inr ⟨q, rfl, rfl⟩
theorem and_text {a b : List UInt8} {ua ub : List Tok} (ha : Lexed a ua) (hb : Lexed b ub) {A B : List Tok} {E F : Tok} {y z : Int × RS} (hA : A.map kt = ua.map kt) (hB : B.map kt = ub.map kt) (hy : Alone A E y) (hz : Alone B F z) (g : (readQ (tAnd a b)).2.2 = 0) :
    (readQ (tAnd a b)).1 = ⟨y.2.l ++ z.2.l.map (shQ y.2.l.length) ++ [⟨1, 0, [], Dc.zero, y.1, z.1 + (y.2.l.length : Int)⟩], ((y.2.l ++ z.2.l.map (shQ y.2.l.length)).length : Int), 0, false, false, 0⟩ := by
  obtain ⟨V, e', h1, h2, h3⟩ := qlex_join [(p1, _), (a, ua), (mAnd, _), (b, ub), (c1, _)] (by simp; exact ⟨lx1, ha, lxAnd, hb, lxc1⟩) (by simp) []
  have h1 : lexF (tAnd a b) 0 = .inl (V ++ [e']) := h1
  have h2 : V.map kt = (1, rowsT) :: (1, whereT) :: (3, [40]) :: (ua.map kt ++ ((3, [41]) :: (1, andT) :: (3, [40]) :: (ub.map kt ++ [(3, [41])]))) := by rw [h2]; simp [kt]
  obtain ⟨t1, W, rfl, k1, h2⟩ := map_cons_inv h2
  obtain ⟨t2, W, rfl, k2, h2⟩ := map_cons_inv h2
  obtain ⟨t4, W, rfl, k4, h2⟩ := map_cons_inv h2
  obtain ⟨A', W, rfl, hA', h2⟩ := map_app_inv h2
  obtain ⟨x, W, rfl, k5, h2⟩ := map_cons_inv h2
  obtain ⟨w, W, rfl, k6, h2⟩ := map_cons_inv h2
  obtain ⟨o, W, rfl, k7, h2⟩ := map_cons_inv h2
  obtain ⟨B', W, rfl, hB', h2⟩ := map_app_inv h2
  obtain ⟨x', W, rfl, k8, h2⟩ := map_cons_inv h2
  obtain rfl : W = [] := by simpa using h2
  have ht : tokR (tAnd a b) = .inl (t1 :: t2 :: (t4 :: (A' ++ x :: w :: o :: (B' ++ x' :: [e'])))) := by have := tokR_of g h1; simpa using this
  rcases q_and hy hz (hA'.trans hA.symm) (hB'.trans hB.symm) k4 k5 k6 k7 k8 h3 with q | ⟨⟨n, q⟩, _⟩
  · exact whole_q ht k1 k2 (by simp) h3 g (y := (_, ⟨[e'], _, 0, false⟩)) (.inl q)
  · exact whole_q ht k1 k2 (by simp) h3 g (y := (_, ⟨[e'], _, n, false⟩)) (.inr ⟨q, rfl, rfl⟩)
theorem or_text {a b : List UInt8} {ua ub : List Tok} (ha : Lexed a ua) (hb : Lexed b ub) {A B : List Tok} {E F : Tok} {y z : Int × RS} (hA : A.map kt = ua.map kt) (hB : B.map kt = ub.map kt) (hy : Alone A E y) (hz : Alone B F z) (g : (readQ (tOr a b)).2.2 = 0) :
    (readQ (tOr a b)).1 = ⟨y.2.l ++ z.2.l.map (shQ y.2.l.length) ++ [⟨2, 0, [], Dc.zero, y.1, z.1 + (y.2.l.length : Int)⟩], ((y.2.l ++ z.2.l.map (shQ y.2.l.length)).length : Int), 0, false, false, 0⟩ := by
  obtain ⟨V, e', h1, h2, h3⟩ := qlex_join [(p1, _), (a, ua), (mOr, _), (b, ub), (c1, _)] (by simp; exact ⟨lx1, ha, lxOr, hb, lxc1⟩) (by simp) []
  have h1 : lexF (tOr a b) 0 = .inl (V ++ [e']) := h1
  have h2 : V.map kt = (1, rowsT) :: (1, whereT) :: (3, [40]) :: (ua.map kt ++ ((3, [41]) :: (1, orT) :: (3, [40]) :: (ub.map kt ++ [(3, [41])]))) := by rw [h2]; simp [kt]
  obtain ⟨t1, W, rfl, k1, h2⟩ := map_cons_inv h2
  obtain ⟨t2, W, rfl, k2, h2⟩ := map_cons_inv h2
  obtain ⟨t4, W, rfl, k4, h2⟩ := map_cons_inv h2
  obtain ⟨A', W, rfl, hA', h2⟩ := map_app_inv h2
  obtain ⟨x, W, rfl, k5, h2⟩ := map_cons_inv h2
  obtain ⟨w, W, rfl, k6, h2⟩ := map_cons_inv h2
  obtain ⟨o, W, rfl, k7, h2⟩ := map_cons_inv h2
  obtain ⟨B', W, rfl, hB', h2⟩ := map_app_inv h2
  obtain ⟨x', W, rfl, k8, h2⟩ := map_cons_inv h2
  obtain rfl : W = [] := by simpa using h2
  have ht : tokR (tOr a b) = .inl (t1 :: t2 :: (t4 :: (A' ++ x :: w :: o :: (B' ++ x' :: [e'])))) := by have := tokR_of g h1; simpa using this
  rcases q_or hy hz (hA'.trans hA.symm) (hB'.trans hB.symm) k4 k5 k6 k7 k8 h3 with q | ⟨⟨n, q⟩, _⟩
  · exact whole_q ht k1 k2 (by simp) h3 g (y := (_, ⟨[e'], _, 0, false⟩)) (.inl q)
  · exact whole_q ht k1 k2 (by simp) h3 g (y := (_, ⟨[e'], _, n, false⟩)) (.inr ⟨q, rfl, rfl⟩)
end Go.Ev
end

/- What rows hold, of conditions behind one another, without a program. No condition. -/
noncomputable section
namespace Go.Ev
open Go.Proofs
variable [Lk]
set_option linter.unusedSectionVars false
set_option linter.unusedVariables false
set_option maxRecDepth 100000

/-- A node that was read. -/
structure QnOk (n : Qn) : Prop where
  c : n.val_.c < w128
  a : 0 ≤ n.a
  b : 0 ≤ n.b
structure InvQ (y : Int × RS) : Prop where
  i : 0 ≤ y.1
  l : ∀ n ∈ y.2.l, QnOk n
theorem putI_nn (r : RS) : 0 ≤ r.putI := by unfold RS.putI; split <;> omega
theorem inv_put {r : RS} (h : ∀ n ∈ r.l, QnOk n) {n : Qn} (hn : QnOk n) : InvQ (r.putI, r.put n) := by
  refine ⟨putI_nn r, ?_⟩
  unfold RS.put
  split
  · exact h
  · intro x hx
    rcases List.mem_append.1 hx with g | g
    · exact h x g
    · rw [List.mem_singleton] at g; subst g; exact hn
theorem zero_c : Dc.zero.c < w128 := by decide
theorem dcR_c (l : List UInt8) : (dcR l).c < w128 := by
  unfold dcR
  split
  · exact zero_c
  · split
    · exact zero_c
    · split
      · exact zero_c
      · rename_i h _
        have e : (10 : Nat) ^ 30 < w128 := by decide
        show valD _ < w128
        omega
theorem numV_c (r : RS) : r.numV.c < w128 := by
  unfold RS.numV
  split
  · exact zero_c
  · exact dcR_c _
theorem inv_test {r : RS} (h : ∀ n ∈ r.l, QnOk n) : InvQ (testF r) := by
  unfold testF
  split
  · exact ⟨Int.le_refl _, h⟩
  · split
    · exact ⟨Int.le_refl _, by show ∀ n ∈ (r.begS _).l, QnOk n; rw [begS_l]; exact h⟩
    · simp only
      split
      · exact ⟨Int.le_refl _, by show ∀ n ∈ (r.begS _).l, QnOk n; rw [begS_l]; exact h⟩
      · exact inv_put (by rw [numS_l, pass_l, begS_l]; exact h) ⟨numV_c _, Int.le_refl _, Int.le_refl _⟩
theorem inv_chainL {w : List UInt8} {k : Int} {part : RS → Int × RS} (hp : ∀ r : RS, (∀ n ∈ r.l, QnOk n) → InvQ (part r)) : ∀ (n : Nat) (a : Int) (r : RS), InvQ (a, r) → InvQ (chainL w k part n a r)
  | 0, a, r, h => h
  | n + 1, a, r, h => by
    unfold chainL
    split
    · have g := hp (r.begS w) (by rw [begS_l]; exact h.l)
      exact inv_chainL hp n _ _ (inv_put g.l ⟨zero_c, h.i, g.i⟩)
    · exact ⟨h.i, by show ∀ n ∈ (r.begS w).l, QnOk n; rw [begS_l]; exact h.l⟩
theorem inv_chainF {w : List UInt8} {k : Int} {part : RS → Int × RS} (hp : ∀ r : RS, (∀ n ∈ r.l, QnOk n) → InvQ (part r)) (r : RS) (h : ∀ n ∈ r.l, QnOk n) : InvQ (chainF w k part r) := inv_chainL hp _ _ _ (hp r h)
theorem inv_factor : ∀ (n : Nat) (r : RS), (∀ n ∈ r.l, QnOk n) → InvQ (factorF n r) := by
  intro n
  induction n with
  | zero =>
    intro r h
    unfold factorF
    split
    · exact ⟨Int.le_refl _, h⟩
    · split
      · exact ⟨Int.le_refl _, h⟩
      · exact inv_test h
  | succ n ih =>
    intro r h
    cases hb : r.bad with
    | true => rw [factorF_bad _ hb]; exact ⟨Int.le_refl _, h⟩
    | false =>
      cases ho : r.opens with
      | true =>
        rw [factorF_open n hb ho]
        have g : InvQ (condF n r.pass) := inv_chainF (inv_chainF ih) _ (by rw [pass_l]; exact h)
        split
        · exact ⟨g.i, by show ∀ n ∈ (RS.isS _ 3 [41]).l, QnOk n; rw [isS_l]; exact g.l⟩
        · exact ⟨Int.le_refl _, by show ∀ n ∈ (RS.isS _ 3 [41]).l, QnOk n; rw [isS_l]; exact g.l⟩
      | false =>
        cases hno : r.nots with
        | true =>
          rw [factorF_not n hb ho hno]
          split
          · have g := ih (r.begS notT) (by rw [begS_l]; exact h)
            exact inv_put g.l ⟨zero_c, g.i, Int.le_refl _⟩
          · exact ⟨Int.le_refl _, by show ∀ n ∈ (r.begS notT).l, QnOk n; rw [begS_l]; exact h⟩
        | false => rw [factorF_test _ hb ho hno]; exact inv_test h
theorem inv_cond (n : Nat) (r : RS) (h : ∀ n ∈ r.l, QnOk n) : InvQ (condF n r) := inv_chainF (inv_chainF (inv_factor n)) r h
/-- Of a condition that is read alone: nodes, the root, how many. -/
theorem alone_ok {A : List Tok} {e : Tok} {y : Int × RS} (h : Alone A e y) : (∀ n ∈ y.2.l, QnOk n) ∧ 0 ≤ y.1 ∧ y.1 < (y.2.l.length : Int) ∧ y.2.l.length ≤ 32 := by
  have h1 := inv_cond 7 ⟨A ++ [e], [], 0, false⟩ (fun n hn => by cases hn)
  have h2 := last_cond 7 ⟨A ++ [e], [], 0, false⟩
  have h3 := condF_le 7 ⟨A ++ [e], [], 0, false⟩
  rw [h.eq] at h1 h2 h3
  obtain ⟨h4, h5⟩ := h2 h.ok
  have h6 := h3.len
  have h7 := h3.hi (Nat.zero_le _)
  refine ⟨h1.l, h1.i, by omega, ?_⟩
  have : (RS.mk (A ++ [e]) [] 0 false).l.length = 0 := rfl
  have : (RS.mk (A ++ [e]) [] 0 false).begun = 0 := rfl
  omega
/-- The first nodes do not hang on what is behind. -/
theorem heldN_app (r : Rv) (l1 l2 : List Qn) : ∀ j, j ≤ l1.length → heldN r (l1 ++ l2) j = heldN r l1 j
  | 0, _ => rfl
  | j + 1, h => by
    rw [heldN, heldN, heldN_app r l1 l2 j (by omega)]
    have : (l1 ++ l2).getD j Qn.zero = l1.getD j Qn.zero := by
      rw [List.getD_eq_getElem?_getD, List.getD_eq_getElem?_getD, List.getElem?_append_left (by omega)]
    rw [this]
theorem atB_sh {H1 H2 : List Bool} {j : Nat} {p : Int} (hp : 0 ≤ p) : atB (H1 ++ H2) (H1.length + j) (p + (H1.length : Int)) = atB H2 j p := by
  unfold atB
  have e1 : decide (0 ≤ p + (H1.length : Int)) = decide (0 ≤ p) := decide_eq_decide.2 (by omega)
  have e2 : decide (p + (H1.length : Int) < ((H1.length + j : Nat) : Int)) = decide (p < (j : Int)) := decide_eq_decide.2 (by omega)
  have e3 : (p + (H1.length : Int)).toNat = H1.length + p.toNat := by omega
  rw [e1, e2, e3, List.getD_eq_getElem?_getD, List.getD_eq_getElem?_getD, List.getElem?_append_right (by omega), Nat.add_sub_cancel_left]
theorem nodeB_sh (r : Rv) {H1 H2 : List Bool} {j : Nat} {n : Qn} (hn : QnOk n) : nodeB r (H1 ++ H2) (H1.length + j) (shQ H1.length n) = nodeB r H2 j n := by
  unfold nodeB
  by_cases k4 : n.kind = 4
  · have e : shQ H1.length n = n := if_pos k4
    rw [e]; simp [k4]
  · by_cases k3 : n.kind = 3
    · have e : shQ H1.length n = { n with a := n.a + (H1.length : Nat) } := by unfold shQ; rw [if_neg k4, if_pos k3]
      rw [e]
      simp only
      rw [atB_sh hn.a, k3]; rfl
    · have e : shQ H1.length n = { n with a := n.a + (H1.length : Nat), b := n.b + (H1.length : Nat) } := by unfold shQ; rw [if_neg k4, if_neg k3]
      rw [e]
      simp only
      rw [atB_sh hn.a, atB_sh hn.b, if_neg k3, if_neg k3, if_neg k4, if_neg k4]
theorem heldN_sh (r : Rv) (l1 l2 l3 : List Qn) (h2 : ∀ n ∈ l2, QnOk n) : ∀ j, j ≤ l2.length → heldN r (l1 ++ l2.map (shQ l1.length) ++ l3) (l1.length + j) = heldN r l1 l1.length ++ heldN r l2 j
  | 0, _ => by rw [Nat.add_zero, List.append_assoc, heldN_app r l1 _ _ (Nat.le_refl _)]; simp [heldN]
  | j + 1, h => by
    have hj : j < l2.length := by omega
    show heldN r (l1 ++ l2.map (shQ l1.length) ++ l3) (l1.length + j) ++ [nodeB r (heldN r (l1 ++ l2.map (shQ l1.length) ++ l3) (l1.length + j)) (l1.length + j) ((l1 ++ l2.map (shQ l1.length) ++ l3).getD (l1.length + j) Qn.zero)] = _
    rw [heldN_sh r l1 l2 l3 h2 j (by omega)]
    have e1 : (l1 ++ l2.map (shQ l1.length) ++ l3).getD (l1.length + j) Qn.zero = shQ l1.length l2[j] := by
      rw [List.getD_eq_getElem?_getD, List.append_assoc, List.getElem?_append_right (by omega), Nat.add_sub_cancel_left, List.getElem?_append_left (by simpa using hj), List.getElem?_map, List.getElem?_eq_getElem hj]
      rfl
    have e2 : l2.getD j Qn.zero = l2[j] := by rw [List.getD_eq_getElem?_getD, List.getElem?_eq_getElem hj]; rfl
    rw [e1, heldN, e2, ← List.append_assoc]
    congr 2
    have := nodeB_sh r (H1 := heldN r l1 l1.length) (H2 := heldN r l2 j) (j := j) (h2 _ (List.getElem_mem hj))
    rw [heldN_len] at this
    exact this
theorem holds_in {root : Int} {l : List Qn} (h0 : 0 ≤ root) (h1 : root < (l.length : Int)) (r : Rv) : holdsF root l r = (heldN r l l.length).getD root.toNat false := by
  unfold holdsF
  rw [if_neg (by omega), decide_eq_true h0, decide_eq_true h1]; rfl
theorem holds_last (l : List Qn) (n : Qn) (r : Rv) : holdsF (l.length : Int) (l ++ [n]) r = nodeB r (heldN r l l.length) l.length n := by
  rw [holds_in (by omega) (by simp; omega)]
  have e : (l ++ [n]).length = l.length + 1 := by simp
  rw [e, heldN, heldN_app r l [n] _ (Nat.le_refl _), Int.toNat_natCast]
  have e2 : (l ++ [n]).getD l.length Qn.zero = n := by rw [List.getD_eq_getElem?_getD, List.getElem?_append_right (Nat.le_refl _)]; simp
  rw [e2, List.getD_eq_getElem?_getD, List.getElem?_append_right (by rw [heldN_len]; exact Nat.le_refl _), heldN_len]
  simp
theorem atB_one {r : Rv} {l : List Qn} {p : Int} (h0 : 0 ≤ p) (h1 : p < (l.length : Int)) : atB (heldN r l l.length) l.length p = holdsF p l r := by
  rw [holds_in h0 h1]
  unfold atB
  rw [decide_eq_true h0, decide_eq_true h1]; rfl
theorem atB_left {H1 H2 : List Bool} {j : Nat} {p : Int} (h0 : 0 ≤ p) (h1 : p < (H1.length : Int)) : atB (H1 ++ H2) (H1.length + j) p = atB H1 H1.length p := by
  unfold atB
  have e2 : decide (p < ((H1.length + j : Nat) : Int)) = decide (p < (H1.length : Int)) := by rw [decide_eq_true h1]; exact decide_eq_true (by omega)
  rw [e2, List.getD_eq_getElem?_getD, List.getD_eq_getElem?_getD, List.getElem?_append_left (by omega)]
section
variable {l1 l2 : List Qn} {ra rb : Int}
theorem holds_two (h2 : ∀ n ∈ l2, QnOk n) (a0 : 0 ≤ ra) (a1 : ra < (l1.length : Int)) (b0 : 0 ≤ rb) (b1 : rb < (l2.length : Int)) (r : Rv) :
    atB (heldN r (l1 ++ l2.map (shQ l1.length)) (l1 ++ l2.map (shQ l1.length)).length) (l1 ++ l2.map (shQ l1.length)).length ra = holdsF ra l1 r ∧
    atB (heldN r (l1 ++ l2.map (shQ l1.length)) (l1 ++ l2.map (shQ l1.length)).length) (l1 ++ l2.map (shQ l1.length)).length (rb + (l1.length : Int)) = holdsF rb l2 r := by
  have e : (l1 ++ l2.map (shQ l1.length)).length = l1.length + l2.length := by simp
  have h := heldN_sh r l1 l2 [] h2 l2.length (Nat.le_refl _)
  rw [List.append_nil] at h
  rw [e, h]
  have hl := heldN_len r l1 l1.length
  constructor
  · have := atB_left (H1 := heldN r l1 l1.length) (H2 := heldN r l2 l2.length) (j := l2.length) a0 (by rw [hl]; exact a1)
    rw [hl] at this
    rw [this]; exact atB_one a0 a1
  · have := atB_sh (H1 := heldN r l1 l1.length) (H2 := heldN r l2 l2.length) (j := l2.length) b0
    rw [hl] at this
    rw [this]; exact atB_one b0 b1
theorem holds_and (h2 : ∀ n ∈ l2, QnOk n) (a0 : 0 ≤ ra) (a1 : ra < (l1.length : Int)) (b0 : 0 ≤ rb) (b1 : rb < (l2.length : Int)) (r : Rv) :
    holdsF ((l1 ++ l2.map (shQ l1.length)).length : Int) (l1 ++ l2.map (shQ l1.length) ++ [⟨1, 0, [], Dc.zero, ra, rb + (l1.length : Int)⟩]) r = (holdsF ra l1 r && holdsF rb l2 r) := by
  obtain ⟨e1, e2⟩ := holds_two h2 a0 a1 b0 b1 r
  rw [holds_last]
  unfold nodeB
  rw [if_pos rfl]
  simp only [e1, e2]
theorem holds_or (h2 : ∀ n ∈ l2, QnOk n) (a0 : 0 ≤ ra) (a1 : ra < (l1.length : Int)) (b0 : 0 ≤ rb) (b1 : rb < (l2.length : Int)) (r : Rv) :
    holdsF ((l1 ++ l2.map (shQ l1.length)).length : Int) (l1 ++ l2.map (shQ l1.length) ++ [⟨2, 0, [], Dc.zero, ra, rb + (l1.length : Int)⟩]) r = (holdsF ra l1 r || holdsF rb l2 r) := by
  obtain ⟨e1, e2⟩ := holds_two h2 a0 a1 b0 b1 r
  rw [holds_last]
  unfold nodeB
  rw [if_neg (show ¬ (2 : Int) = 1 by decide), if_pos rfl]
  simp only [e1, e2]
theorem holds_not (a0 : 0 ≤ ra) (a1 : ra < (l1.length : Int)) (r : Rv) : holdsF (l1.length : Int) (l1 ++ [⟨3, 0, [], Dc.zero, ra, 0⟩]) r = !(holdsF ra l1 r) := by
  rw [holds_last]
  unfold nodeB
  rw [if_neg (show ¬ (3 : Int) = 1 by decide), if_neg (show ¬ (3 : Int) = 2 by decide), if_pos rfl]
  simp only [atB_one a0 a1]
end
/-- A test of one node. -/
theorem holds_test (n : Qn) (h : n.kind = 4) (r : Rv) : holdsF 0 [n] r = testedF n r := by
  have := holds_last [] n r
  rw [show (([] : List Qn).length : Int) = 0 from rfl, List.nil_append] at this
  rw [this]
  unfold nodeB
  rw [if_neg (by omega), if_neg (by omega), if_neg (by omega), if_pos h]
theorem rowF_num (x y : Int) : (rowF x y).num := by
  have hd : ∀ a b : Int, (ofD (a % 20001 - 10000) b).c < w128 := fun a b => by unfold ofD w128; simp only; omega
  exact ⟨by unfold inR rowF; simp only; omega, by unfold inR rowF; simp only; omega, by unfold inR rowF; simp only; omega, by unfold inR rowF; simp only; omega, hd _ _⟩
theorem tabF_num (l : List Int) : ∀ r ∈ tabF l, r.num := by
  intro r hr
  obtain ⟨j, _, rfl⟩ := List.mem_map.1 hr
  exact rowF_num _ _
end Go.Ev
end

/- ViewHolds walked. No condition. -/
noncomputable section
namespace Go.Ev
open Go.Proofs
variable [Lk]
set_option linter.unusedSectionVars false
set_option linter.unusedVariables false
set_option maxRecDepth 100000

theorem qtab_len (l : List Int) : (tabF l).length ≤ 20 := by unfold tabF tabN; rw [List.length_map, List.length_range]; omega
def cntF (T : Nat → Bool) : Nat → Nat
  | 0 => 0
  | j + 1 => cntF T j + if T j = true then 1 else 0
theorem cntF_le (T : Nat → Bool) : ∀ j, cntF T j ≤ j
  | 0 => Nat.le_refl _
  | j + 1 => by have := cntF_le T j; unfold cntF; split <;> omega
def sgN (f : Int) (d : Dc) (j : Nat) : Qn := ⟨4, f, signL.getD j [], d, 0, 0⟩
/-- A test and its two others: just one holds. -/
theorem three (f : Int) (hf : 1 ≤ f) (hf5 : f ≤ 5) (d : Dc) (r : Rv) : cntF (fun j => testedF (sgN f d j) r) 3 = 1 := by
  have e : ∃ side : Int, ∀ j, testedF (sgN f d j) r = testV (signL.getD j []) side := by
    by_cases h : f = 5
    · exact ⟨cmpF r.am d, fun j => by unfold testedF sgN; rw [if_pos h]⟩
    · exact ⟨cmpF (ofD (numberR r f) 0) d, fun j => by unfold testedF sgN; simp only; rw [if_neg h, if_pos ⟨hf, by omega⟩]⟩
  obtain ⟨side, e⟩ := e
  have e0 : testV (signL.getD 0 []) side = decide (side = 0) := rfl
  have e1 : testV (signL.getD 1 []) side = decide (side < 0) := rfl
  have e2 : testV (signL.getD 2 []) side = decide (side > 0) := rfl
  simp only [cntF, e, e0, e1, e2, decide_eq_true_eq]
  split <;> split <;> split <;> omega
theorem qread_spec2 {z : St} (wf : WF z) (l : List UInt8) : Cw Tryz.prog 18 [sv l] z fun v s' => K0 z s' ∧ ∃ (q : Qy) (i : Nat) (e : Int) (a : Option Addr) (c : Nat), readQ l = (q, i, e) ∧ v = .tuple #[q.val (.slice a q.nodes.length c), .int .i64 (i : Int), .int .i64 e] ∧ OwnN z.next s' (.slice a q.nodes.length c) 9 q.nodes.length (ndC q.nodes) :=
  (qread_spec wf l).mono fun v s' ⟨k, w, h1, h2⟩ => by
    obtain ⟨a, c, rfl⟩ := h2.shape
    exact ⟨k, (readQ l).1, (readQ l).2.1, (readQ l).2.2, a, c, rfl, h1, h2⟩
set_option maxHeartbeats 1600000 in
theorem viewHolds_walk {s0 : St} (wf : WF s0) {v1 : Value} {z1 : List Int} (hv1 : Sl s0 none v1 1 z1.length (z1.map (Value.int .i64))) (hl1 : z1.length ≤ 140737488351232) (hz1 : ∀ n ∈ z1, inR n)
    {v2 : Value} {z2 : List Int} (hv2 : Sl s0 none v2 1 z2.length (z2.map (Value.int .i64))) (hl2 : z2.length ≤ 140737488351232) (hz2 : ∀ n ∈ z2, inR n)
    {v3 : Value} {z3 : List Int} (hv3 : Sl s0 none v3 1 z3.length (z3.map (Value.int .i64))) (hl3 : z3.length ≤ 140737488351232) (hz3 : ∀ n ∈ z3, inR n) {field n : Int} (hfd : inR field) (hn : inR n) :
    Cw Tryz.prog 7 [v1, v2, v3, .int .i64 field, .int .i64 n] s0 fun r _ => r = .bool true := by
  have hp : Hp (fun _ => False) s0 [slA none v1 1 z1.length (z1.map (Value.int .i64)), slA none v2 1 z2.length (z2.map (Value.int .i64)), slA none v3 1 z3.length (z3.map (Value.int .i64))] [] s0 := Hp.start _ wf _ (by simp; exact ⟨hv1, hv2, hv3⟩)
  refine Cw.enterS Tryz.func7 rfl rfl ?_
  refine Sm.seqW ?_
  conv => whnf
  refine Sm.live [0, 1, 2, 3, 4] ?_
  conv => whnf
  refine Sm.seqW ?_
  conv => whnf
  refine (cond23_spec hp.wf (hp.slR .here) hz1 hl1 6 0 (by decide) (Nat.zero_le _)).mono ?_
  rintro _ s1 ⟨h1, rfl⟩
  obtain rfl := h1.symm
  conv => whnf
  have la := (condT_ok z1 6 0 (Nat.zero_le _)).1
  generalize condT z1 6 0 = A1 at la ⊢
  obtain ⟨a, ai⟩ := A1
  simp only at la
  refine Sm.live [1, 2, 3, 4, 11] ?_
  conv => whnf
  refine Sm.seqW ?_
  conv => whnf
  refine (cond23_spec hp.wf (hp.slR (.there .here)) hz2 hl2 6 0 (by decide) (Nat.zero_le _)).mono ?_
  rintro _ s1 ⟨h1, rfl⟩
  obtain rfl := h1.symm
  conv => whnf
  have lb := (condT_ok z2 6 0 (Nat.zero_le _)).1
  generalize condT z2 6 0 = B1 at lb ⊢
  obtain ⟨b, bi⟩ := B1
  simp only at lb
  have h26 : 25 * 2 ^ 6 = 1600 := by decide
  refine Sm.live [2, 3, 4, 11, 13] ?_
  conv => whnf
  refine Sm.seqW ?_
  conv => whnf
  refine Om.of _ (qv_add ([114, 111, 119, 115, 32, 119, 104, 101, 114, 101, 32]) a (by simp only [List.length_append, List.length_cons, List.length_nil]; omega)) ?_
  conv => whnf
  rw [show [114, 111, 119, 115, 32, 119, 104, 101, 114, 101, 32] ++ a = tA a by simp [tA, tAnd, tOr, tNot, p0, p1, pNot, mAnd, mOr, c1, rowsT, whereT]]
  refine (qread_spec2 hp.wf (tA a)).mono ?_
  rintro _ s' ⟨k1, q15, i15, e15, a15, c15, hQ15, rfl, o⟩
  conv => whnf
  obtain ⟨κ15, hp'⟩ := hp.on k1 o
  clear hp k1 o
  have hp := hp'
  clear hp'
  refine hp.alloc (cs := (Qy.zero.cells (.slice none 0 0))) (e := 6) rfl rfl rfl rfl rfl ?_
  clear hp
  intro p15 s hp _
  conv => whnf
  refine hp.storeW (vs := q15.cells (.slice a15 q15.nodes.length c15)) (C := Qy.zero.cells (.slice none 0 0)) rfl (by repeat (first | exact Rm.here | apply Rm.there)) (by rfl) rfl rfl rfl ?_
  clear hp
  intro s hp _
  conv => whnf
  refine Sm.live [2, 3, 4, 11, 13, 15, 17] ?_
  conv => whnf
  refine Sm.seqW ?_
  conv => whnf
  refine Om.of _ (qv_add ([114, 111, 119, 115, 32, 119, 104, 101, 114, 101, 32]) b (by simp only [List.length_append, List.length_cons, List.length_nil]; omega)) ?_
  conv => whnf
  rw [show [114, 111, 119, 115, 32, 119, 104, 101, 114, 101, 32] ++ b = tA b by simp [tA, tAnd, tOr, tNot, p0, p1, pNot, mAnd, mOr, c1, rowsT, whereT]]
  refine (qread_spec2 hp.wf (tA b)).mono ?_
  rintro _ s' ⟨k1, q18, i18, e18, a18, c18, hQ18, rfl, o⟩
  conv => whnf
  obtain ⟨κ18, hp'⟩ := hp.on k1 o
  clear hp k1 o
  have hp := hp'
  clear hp'
  refine hp.alloc (cs := (Qy.zero.cells (.slice none 0 0))) (e := 6) rfl rfl rfl rfl rfl ?_
  clear hp
  intro p18 s hp _
  conv => whnf
  refine hp.storeW (vs := q18.cells (.slice a18 q18.nodes.length c18)) (C := Qy.zero.cells (.slice none 0 0)) rfl (by repeat (first | exact Rm.here | apply Rm.there)) (by rfl) rfl rfl rfl ?_
  clear hp
  intro s hp _
  conv => whnf
  refine Sm.live [2, 3, 4, 11, 13, 15, 17, 18, 20] ?_
  conv => whnf
  refine Sm.seqW ?_
  conv => whnf
  refine Om.of _ (qv_add ([114, 111, 119, 115, 32, 119, 104, 101, 114, 101, 32, 40, 32]) a (by simp only [List.length_append, List.length_cons, List.length_nil]; omega)) ?_
  conv => whnf
  refine Om.of _ (qv_add ([114, 111, 119, 115, 32, 119, 104, 101, 114, 101, 32, 40, 32] ++ a) [32, 41, 32, 97, 110, 100, 32, 40, 32] (by simp only [List.length_append, List.length_cons, List.length_nil]; omega)) ?_
  conv => whnf
  refine Om.of _ (qv_add ([114, 111, 119, 115, 32, 119, 104, 101, 114, 101, 32, 40, 32] ++ a ++ [32, 41, 32, 97, 110, 100, 32, 40, 32]) b (by simp only [List.length_append, List.length_cons, List.length_nil]; omega)) ?_
  conv => whnf
  refine Om.of _ (qv_add ([114, 111, 119, 115, 32, 119, 104, 101, 114, 101, 32, 40, 32] ++ a ++ [32, 41, 32, 97, 110, 100, 32, 40, 32] ++ b) [32, 41] (by simp only [List.length_append, List.length_cons, List.length_nil]; omega)) ?_
  conv => whnf
  rw [show [114, 111, 119, 115, 32, 119, 104, 101, 114, 101, 32, 40, 32] ++ a ++ [32, 41, 32, 97, 110, 100, 32, 40, 32] ++ b ++ [32, 41] = tAnd a b by simp [tA, tAnd, tOr, tNot, p0, p1, pNot, mAnd, mOr, c1, rowsT, whereT]]
  refine (qread_spec2 hp.wf (tAnd a b)).mono ?_
  rintro _ s' ⟨k1, q21, i21, e21, a21, c21, hQ21, rfl, o⟩
  conv => whnf
  obtain ⟨κ21, hp'⟩ := hp.on k1 o
  clear hp k1 o
  have hp := hp'
  clear hp'
  refine hp.alloc (cs := (Qy.zero.cells (.slice none 0 0))) (e := 6) rfl rfl rfl rfl rfl ?_
  clear hp
  intro p21 s hp _
  conv => whnf
  refine hp.storeW (vs := q21.cells (.slice a21 q21.nodes.length c21)) (C := Qy.zero.cells (.slice none 0 0)) rfl (by repeat (first | exact Rm.here | apply Rm.there)) (by rfl) rfl rfl rfl ?_
  clear hp
  intro s hp _
  conv => whnf
  refine Sm.live [2, 3, 4, 11, 13, 15, 17, 18, 20, 21, 23] ?_
  conv => whnf
  refine Sm.seqW ?_
  conv => whnf
  refine Om.of _ (qv_add ([114, 111, 119, 115, 32, 119, 104, 101, 114, 101, 32, 40, 32]) a (by simp only [List.length_append, List.length_cons, List.length_nil]; omega)) ?_
  conv => whnf
  refine Om.of _ (qv_add ([114, 111, 119, 115, 32, 119, 104, 101, 114, 101, 32, 40, 32] ++ a) [32, 41, 32, 111, 114, 32, 40, 32] (by simp only [List.length_append, List.length_cons, List.length_nil]; omega)) ?_
  conv => whnf
  refine Om.of _ (qv_add ([114, 111, 119, 115, 32, 119, 104, 101, 114, 101, 32, 40, 32] ++ a ++ [32, 41, 32, 111, 114, 32, 40, 32]) b (by simp only [List.length_append, List.length_cons, List.length_nil]; omega)) ?_
  conv => whnf
  refine Om.of _ (qv_add ([114, 111, 119, 115, 32, 119, 104, 101, 114, 101, 32, 40, 32] ++ a ++ [32, 41, 32, 111, 114, 32, 40, 32] ++ b) [32, 41] (by simp only [List.length_append, List.length_cons, List.length_nil]; omega)) ?_
  conv => whnf
  rw [show [114, 111, 119, 115, 32, 119, 104, 101, 114, 101, 32, 40, 32] ++ a ++ [32, 41, 32, 111, 114, 32, 40, 32] ++ b ++ [32, 41] = tOr a b by simp [tA, tAnd, tOr, tNot, p0, p1, pNot, mAnd, mOr, c1, rowsT, whereT]]
  refine (qread_spec2 hp.wf (tOr a b)).mono ?_
  rintro _ s' ⟨k1, q24, i24, e24, a24, c24, hQ24, rfl, o⟩
  conv => whnf
  obtain ⟨κ24, hp'⟩ := hp.on k1 o
  clear hp k1 o
  have hp := hp'
  clear hp'
  refine hp.alloc (cs := (Qy.zero.cells (.slice none 0 0))) (e := 6) rfl rfl rfl rfl rfl ?_
  clear hp
  intro p24 s hp _
  conv => whnf
  refine hp.storeW (vs := q24.cells (.slice a24 q24.nodes.length c24)) (C := Qy.zero.cells (.slice none 0 0)) rfl (by repeat (first | exact Rm.here | apply Rm.there)) (by rfl) rfl rfl rfl ?_
  clear hp
  intro s hp _
  conv => whnf
  refine Sm.live [2, 3, 4, 11, 15, 17, 18, 20, 21, 23, 24, 26] ?_
  conv => whnf
  refine Sm.seqW ?_
  conv => whnf
  refine Om.of _ (qv_add ([114, 111, 119, 115, 32, 119, 104, 101, 114, 101, 32, 110, 111, 116, 32, 40, 32]) a (by simp only [List.length_append, List.length_cons, List.length_nil]; omega)) ?_
  conv => whnf
  refine Om.of _ (qv_add ([114, 111, 119, 115, 32, 119, 104, 101, 114, 101, 32, 110, 111, 116, 32, 40, 32] ++ a) [32, 41] (by simp only [List.length_append, List.length_cons, List.length_nil]; omega)) ?_
  conv => whnf
  rw [show [114, 111, 119, 115, 32, 119, 104, 101, 114, 101, 32, 110, 111, 116, 32, 40, 32] ++ a ++ [32, 41] = tNot a by simp [tA, tAnd, tOr, tNot, p0, p1, pNot, mAnd, mOr, c1, rowsT, whereT]]
  refine (qread_spec2 hp.wf (tNot a)).mono ?_
  rintro _ s' ⟨k1, q27, i27, e27, a27, c27, hQ27, rfl, o⟩
  conv => whnf
  obtain ⟨κ27, hp'⟩ := hp.on k1 o
  clear hp k1 o
  have hp := hp'
  clear hp'
  refine hp.alloc (cs := (Qy.zero.cells (.slice none 0 0))) (e := 6) rfl rfl rfl rfl rfl ?_
  clear hp
  intro p27 s hp _
  conv => whnf
  refine hp.storeW (vs := q27.cells (.slice a27 q27.nodes.length c27)) (C := Qy.zero.cells (.slice none 0 0)) rfl (by repeat (first | exact Rm.here | apply Rm.there)) (by rfl) rfl rfl rfl ?_
  clear hp
  intro s hp _
  conv => whnf
  refine Sm.live [2, 3, 4, 15, 17, 18, 20, 21, 23, 24, 26, 27, 29] ?_
  conv => whnf
  refine Sm.seq ?_
  refine Sm.seqC (fun e L' s' => e = .normal ∧ s' = s ∧ ∃ bad : Bool, (bad = false → e15 = 0 ∧ e18 = 0 ∧ e21 = 0 ∧ e24 = 0 ∧ e27 = 0) ∧ Sub [(2, v3), (3, .int .i64 field), (4, .int .i64 n), (15, .pointer (some ⟨p15, 0, none⟩)), (18, .pointer (some ⟨p18, 0, none⟩)), (21, .pointer (some ⟨p21, 0, none⟩)), (24, .pointer (some ⟨p24, 0, none⟩)), (27, .pointer (some ⟨p27, 0, none⟩)), (110, .bool bad)] L') ?_ ?_
  · conv => whnf
    by_cases g15 : e15 = 0
    case neg =>
      have q15 : (e15 != 0) = true := by simp [g15]
      repeat (first | (refine Br.yes q15 ?_; conv => whnf) | (first | (refine Br.yes (by first | with_reducible rfl | with_reducible exact beq_self_eq_true _ | rfl) ?_; conv => whnf) | (refine Br.no (by first | with_reducible rfl | with_reducible exact bne_self_eq_false _ | rfl) ?_; conv => whnf)))
      exact ⟨rfl, rfl, true, fun h => (by cases h), subK_ok ⟨rfl, rfl, rfl, rfl, rfl, rfl, rfl, rfl, by first | rfl | exact congrArg (fun x => some (Value.bool x)) q15, trivial⟩⟩
    have q15 : (e15 != 0) = false := by simp [g15]
    by_cases g18 : e18 = 0
    case neg =>
      have q18 : (e18 != 0) = true := by simp [g18]
      repeat (first | (refine Br.no q15 ?_; conv => whnf) | (refine Br.yes q18 ?_; conv => whnf) | (first | (refine Br.yes (by first | with_reducible rfl | with_reducible exact beq_self_eq_true _ | rfl) ?_; conv => whnf) | (refine Br.no (by first | with_reducible rfl | with_reducible exact bne_self_eq_false _ | rfl) ?_; conv => whnf)))
      exact ⟨rfl, rfl, true, fun h => (by cases h), subK_ok ⟨rfl, rfl, rfl, rfl, rfl, rfl, rfl, rfl, by first | rfl | exact congrArg (fun x => some (Value.bool x)) q18, trivial⟩⟩
    have q18 : (e18 != 0) = false := by simp [g18]
    by_cases g21 : e21 = 0
    case neg =>
      have q21 : (e21 != 0) = true := by simp [g21]
      repeat (first | (refine Br.no q15 ?_; conv => whnf) | (refine Br.no q18 ?_; conv => whnf) | (refine Br.yes q21 ?_; conv => whnf) | (first | (refine Br.yes (by first | with_reducible rfl | with_reducible exact beq_self_eq_true _ | rfl) ?_; conv => whnf) | (refine Br.no (by first | with_reducible rfl | with_reducible exact bne_self_eq_false _ | rfl) ?_; conv => whnf)))
      exact ⟨rfl, rfl, true, fun h => (by cases h), subK_ok ⟨rfl, rfl, rfl, rfl, rfl, rfl, rfl, rfl, by first | rfl | exact congrArg (fun x => some (Value.bool x)) q21, trivial⟩⟩
    have q21 : (e21 != 0) = false := by simp [g21]
    by_cases g24 : e24 = 0
    case neg =>
      have q24 : (e24 != 0) = true := by simp [g24]
      repeat (first | (refine Br.no q15 ?_; conv => whnf) | (refine Br.no q18 ?_; conv => whnf) | (refine Br.no q21 ?_; conv => whnf) | (refine Br.yes q24 ?_; conv => whnf) | (first | (refine Br.yes (by first | with_reducible rfl | with_reducible exact beq_self_eq_true _ | rfl) ?_; conv => whnf) | (refine Br.no (by first | with_reducible rfl | with_reducible exact bne_self_eq_false _ | rfl) ?_; conv => whnf)))
      exact ⟨rfl, rfl, true, fun h => (by cases h), subK_ok ⟨rfl, rfl, rfl, rfl, rfl, rfl, rfl, rfl, by first | rfl | exact congrArg (fun x => some (Value.bool x)) q24, trivial⟩⟩
    have q24 : (e24 != 0) = false := by simp [g24]
    by_cases g27 : e27 = 0
    case neg =>
      have q27 : (e27 != 0) = true := by simp [g27]
      repeat (first | (refine Br.no q15 ?_; conv => whnf) | (refine Br.no q18 ?_; conv => whnf) | (refine Br.no q21 ?_; conv => whnf) | (refine Br.no q24 ?_; conv => whnf) | (refine Br.yes q27 ?_; conv => whnf) | (first | (refine Br.yes (by first | with_reducible rfl | with_reducible exact beq_self_eq_true _ | rfl) ?_; conv => whnf) | (refine Br.no (by first | with_reducible rfl | with_reducible exact bne_self_eq_false _ | rfl) ?_; conv => whnf)))
      exact ⟨rfl, rfl, true, fun h => (by cases h), subK_ok ⟨rfl, rfl, rfl, rfl, rfl, rfl, rfl, rfl, by first | rfl | exact congrArg (fun x => some (Value.bool x)) q27, trivial⟩⟩
    have q27 : (e27 != 0) = false := by simp [g27]
    repeat (first | (refine Br.no q15 ?_; conv => whnf) | (refine Br.no q18 ?_; conv => whnf) | (refine Br.no q21 ?_; conv => whnf) | (refine Br.no q24 ?_; conv => whnf) | (refine Br.no q27 ?_; conv => whnf) | (first | (refine Br.yes (by first | with_reducible rfl | with_reducible exact beq_self_eq_true _ | rfl) ?_; conv => whnf) | (refine Br.no (by first | with_reducible rfl | with_reducible exact bne_self_eq_false _ | rfl) ?_; conv => whnf)))
    exact ⟨rfl, rfl, false, fun _ => ⟨g15, g18, g21, g24, g27⟩, subK_ok ⟨rfl, rfl, rfl, rfl, rfl, rfl, rfl, rfl, by first | rfl | exact congrArg (fun x => some (Value.bool x)) q27, trivial⟩⟩
  rintro e L' s' ⟨rfl, h1, bad, hbad, hs⟩
  obtain rfl := h1.symm
  refine Sm.weak _ hs ?_
  clear hs
  refine Sm.ofW ?_
  conv => whnf
  cases bad with
  | true =>
    refine Br.yes rfl ?_
    conv => whnf
    refine hp.call (vknown_spec hp.wf) ?_
    clear hp
    rintro _ s rfl hp _
    conv => whnf
    exact ⟨rfl⟩
  | false =>
  refine Br.no rfl ?_
  conv => whnf
  obtain ⟨rfl, rfl, rfl, rfl, rfl⟩ := hbad rfl

  -- what was read
  obtain ⟨ua, hua⟩ := lexed_mid (p := p1) (a := a) (R := mAnd ++ 32 :: (b ++ 32 :: c1)) lx1 (show (readQ (tAnd a b)).2.2 = 0 by rw [hQ21])
  have hlm : Lexed (p1 ++ 32 :: (a ++ 32 :: mAnd)) ([⟨1, rowsT, 0⟩, ⟨1, whereT, 5⟩, ⟨3, [40], 11⟩] ++ ua) ∨ True := .inr trivial
  clear hlm
  have hub : ∃ ub, Lexed b ub := by
    cases h : lexF b 0 with
    | inl ts => obtain ⟨ub, rfl⟩ := lexed_of h; exact ⟨ub, h⟩
    | inr k =>
      exfalso
      obtain ⟨k', e⟩ := lex_seg_fail lx1 (Q := []) (R := a ++ 32 :: (mAnd ++ 32 :: (b ++ 32 :: c1))) (lex_seg_fail hua (lex_seg_fail lxAnd (lex_fail h _ _)))
      exact not_inr (show (readQ (tAnd a b)).2.2 = 0 by rw [hQ21]) e
  obtain ⟨ub, hub⟩ := hub
  obtain ⟨TA, EA, ya, hTA, hya, na, ra, -⟩ := alone_text hua (show (readQ (tA a)).2.2 = 0 by rw [hQ15])
  obtain ⟨TB, EB, yb, hTB, hyb, nb, rb, -⟩ := alone_text hub (show (readQ (tA b)).2.2 = 0 by rw [hQ18])
  have r21 := and_text hua hub hTA hTB hya hyb (show (readQ (tAnd a b)).2.2 = 0 by rw [hQ21])
  have r24 := or_text hua hub hTA hTB hya hyb (show (readQ (tOr a b)).2.2 = 0 by rw [hQ24])
  have r27 := not_text hua hTA hya (show (readQ (tNot a)).2.2 = 0 by rw [hQ27])
  rw [hQ15] at na ra
  rw [hQ18] at nb rb
  rw [hQ21] at r21
  rw [hQ24] at r24
  rw [hQ27] at r27
  simp only at na ra nb rb r21 r24 r27
  obtain ⟨oka, a0, a1, a32⟩ := alone_ok hya
  obtain ⟨okb, b0, b1, b32⟩ := alone_ok hyb
  have hH21 : ∀ r, holdsF q21.root q21.nodes r = (holdsF q15.root q15.nodes r && holdsF q18.root q18.nodes r) := fun r => by rw [r21, na, ra, nb, rb]; exact holds_and okb a0 a1 b0 b1 r
  have hH24 : ∀ r, holdsF q24.root q24.nodes r = (holdsF q15.root q15.nodes r || holdsF q18.root q18.nodes r) := fun r => by rw [r24, na, ra, nb, rb]; exact holds_or okb a0 a1 b0 b1 r
  have hH27 : ∀ r, holdsF q27.root q27.nodes r = !(holdsF q15.root q15.nodes r) := fun r => by rw [r27, na, ra]; exact holds_not a0 a1 r
  have sh_c : ∀ (k : Nat) (l : List Qn), (∀ n ∈ l, QnOk n) → ∀ n ∈ l.map (shQ k), n.val_.c < w128 := fun k l h n hn => by
    obtain ⟨x, hx, rfl⟩ := List.mem_map.1 hn
    have := (h x hx).c
    unfold shQ
    split
    · exact this
    · split <;> exact this
  have N15 : q15.nodes.length ≤ 1000 ∧ ∀ n ∈ q15.nodes, n.val_.c < w128 := by rw [na]; exact ⟨by omega, fun n hn => (oka n hn).c⟩
  have N18 : q18.nodes.length ≤ 1000 ∧ ∀ n ∈ q18.nodes, n.val_.c < w128 := by rw [nb]; exact ⟨by omega, fun n hn => (okb n hn).c⟩
  have N21 : q21.nodes.length ≤ 1000 ∧ ∀ n ∈ q21.nodes, n.val_.c < w128 := by
    rw [r21]
    refine ⟨by simp only [List.length_append, List.length_map, List.length_singleton]; omega, fun n hn => ?_⟩
    rcases List.mem_append.1 hn with g | g
    · rcases List.mem_append.1 g with g | g
      · exact (oka n g).c
      · exact sh_c _ _ okb n g
    · rw [List.mem_singleton] at g; subst g; exact zero_c
  have N24 : q24.nodes.length ≤ 1000 ∧ ∀ n ∈ q24.nodes, n.val_.c < w128 := by
    rw [r24]
    refine ⟨by simp only [List.length_append, List.length_map, List.length_singleton]; omega, fun n hn => ?_⟩
    rcases List.mem_append.1 hn with g | g
    · rcases List.mem_append.1 g with g | g
      · exact (oka n g).c
      · exact sh_c _ _ okb n g
    · rw [List.mem_singleton] at g; subst g; exact zero_c
  have N27 : q27.nodes.length ≤ 1000 ∧ ∀ n ∈ q27.nodes, n.val_.c < w128 := by
    rw [r27]
    refine ⟨by simp only [List.length_append, List.length_singleton]; omega, fun n hn => ?_⟩
    rcases List.mem_append.1 hn with g | g
    · exact (oka n g).c
    · rw [List.mem_singleton] at g; subst g; exact zero_c
  clear hQ15 hQ18 hQ21 hQ24 hQ27 na ra nb rb r21 r24 r27 oka okb hua hub hya hyb hTA hTB hbad
  refine Sm.seqW ?_
  conv => whnf
  refine table_spec hp (.there (.there .here)) hl3 hz3 ?_
  clear hp
  intro κx vx κy vy lb2 s hp
  have hnum := tabF_num z3
  have hlen := qtab_len z3
  generalize tabF z3 = rows at hp hnum hlen ⊢
  obtain ⟨ax, cx, rfl⟩ := (hp.slF (κ := κx) (v := vx) (by repeat (first | exact Rm.here | apply Rm.there))).shape
  conv => whnf
  refine Sm.live [3, 4, 15, 18, 21, 24, 27, 30] ?_
  conv => whnf
  refine Sm.seqW ?_
  conv => whnf
  refine (pick_spec _ hfd (m := 5) (by decide) (by decide)).mono ?_
  rintro _ s1 ⟨h1, rfl⟩
  obtain rfl := h1.symm
  conv => whnf
  have hf1 : 1 ≤ 1 + field % 5 := by omega
  have hf5 : 1 + field % 5 ≤ 5 := by omega
  have ef : IntKind.i64.wrap (1 + field % 5) = 1 + field % 5 := wi64 (by omega) (by omega)
  rw [ef]
  generalize 1 + field % 5 = fl at hf1 hf5 ⊢
  refine Sm.live [4, 15, 18, 21, 24, 27, 30, 33] ?_
  conv => whnf
  refine Sm.seq ?_
  refine Sm.seqW ?_
  conv => whnf
  refine Sm.live [4, 15, 18, 21, 24, 27, 33, 121, 122, 123] ?_
  conv => whnf
  refine Sm.block ?_
  refine Sm.loop ?_
  refine Lp.ofS (α := Nat) (fun x => [(4, .int .i64 n), (15, .pointer (some ⟨p15, 0, none⟩)), (18, .pointer (some ⟨p18, 0, none⟩)), (21, .pointer (some ⟨p21, 0, none⟩)), (24, .pointer (some ⟨p24, 0, none⟩)), (27, .pointer (some ⟨p27, 0, none⟩)), (33, .int .i64 fl), (121, .slice ax rows.length cx), (122, .int .i64 (rows.length : Int)), (123, .int .i64 (x : Int))])
    (fun x s' => x ≤ rows.length ∧ Hp (fun _ => False) s0 [slA none v1 1 z1.length (z1.map (Value.int .i64)), slA none v2 1 z2.length (z2.map (Value.int .i64)), slA none v3 1 z3.length (z3.map (Value.int .i64))] [onA κx (.slice ax rows.length cx) 10 rows.length (rvCells rows), blkA p15 p15 (q15.cells (.slice a15 q15.nodes.length c15)) 6, blkA p18 p18 (q18.cells (.slice a18 q18.nodes.length c18)) 6, blkA p21 p21 (q21.cells (.slice a21 q21.nodes.length c21)) 6, blkA p24 p24 (q24.cells (.slice a24 q24.nodes.length c24)) 6, blkA p27 p27 (q27.cells (.slice a27 q27.nodes.length c27)) 6, onA κ15 (.slice a15 q15.nodes.length c15) 9 q15.nodes.length (ndC q15.nodes), onA κ18 (.slice a18 q18.nodes.length c18) 9 q18.nodes.length (ndC q18.nodes), onA κ21 (.slice a21 q21.nodes.length c21) 9 q21.nodes.length (ndC q21.nodes), onA κ24 (.slice a24 q24.nodes.length c24) 9 q24.nodes.length (ndC q24.nodes), onA κ27 (.slice a27 q27.nodes.length c27) 9 q27.nodes.length (ndC q27.nodes)] s')
    (fun x => rows.length - x) ?_ 0 (subK_ok (by refine ⟨rfl, rfl, rfl, rfl, rfl, rfl, rfl, rfl, rfl, rfl, trivial⟩)) ⟨Nat.zero_le _, hp.pik (by repeat (first | exact Pik.nil | exact Pik.refl _ | exact Rm.here | apply Rm.there | apply Pik.cons | apply Pik.skip))⟩
  clear hp
  rintro i s ⟨hi, hp⟩
  refine Sm.seqW ?_
  conv => whnf
  refine Sm.seq ?_
  refine Sm.ofW ?_
  conv => whnf
  refine Br.mk (fun hq => ?_) (fun hq => ?_)
  · have hi2 : i < rows.length := by have := of_decide_eq_true hq; omega
    have e6 : IntKind.i64.wrap ((i : Int) + 1) = ((i + 1 : Nat) : Int) := by rw [wi64 (by omega) (by omega)]; omega
    conv => whnf
    refine Sm.seq ?_
    refine Sm.block ?_
    refine Sm.seqW ?_
    conv => whnf
    obtain ⟨pp, f1, f2⟩ := index_rv (hp.slF (κ := κx) (v := .slice ax rows.length cx) (by repeat (first | exact Rm.here | apply Rm.there))) .i64 hi2
    refine Om.of _ (f1) ?_
    conv => whnf
    refine Om.of _ (f2) ?_
    conv => whnf
    have hr := hnum _ (List.getElem_mem hi2)
    generalize rows[i] = r at hr
    clear f1 f2
    refine hp.alloc (cs := Rv.cells ⟨0, 0, 0, 0, ⟨false, 0, 0⟩, ⟨0, 0⟩⟩) (e := 10) rfl rfl rfl rfl rfl ?_
    clear hp
    intro p35 s hp _
    conv => whnf
    refine hp.storeW (vs := r.cells) (C := Rv.cells ⟨0, 0, 0, 0, ⟨false, 0, 0⟩, ⟨0, 0⟩⟩) rfl (by repeat (first | exact Rm.here | apply Rm.there)) (by rfl) rfl rfl rfl ?_
    clear hp
    intro s hp _
    conv => whnf
    refine Sm.live [4, 15, 18, 21, 24, 27, 33, 35, 121, 122, 123] ?_
    conv => whnf
    obtain ⟨HA, hHA⟩ : ∃ H, holdsF q15.root q15.nodes r = H := ⟨_, rfl⟩
    obtain ⟨HB, hHB⟩ : ∃ H, holdsF q18.root q18.nodes r = H := ⟨_, rfl⟩
    have S15 : ∀ {s : St}, WF s → Sl s κ15 (.slice a15 q15.nodes.length c15) 9 q15.nodes.length (ndC q15.nodes) → Cw Tryz.prog 29 [q15.val (.slice a15 q15.nodes.length c15), r.val] s fun v s' => K0 s s' ∧ v = .bool HA := fun wf h => by have := holds_spec wf q15 h N15.1 N15.2 r hr; rw [hHA] at this; exact this
    have S18 : ∀ {s : St}, WF s → Sl s κ18 (.slice a18 q18.nodes.length c18) 9 q18.nodes.length (ndC q18.nodes) → Cw Tryz.prog 29 [q18.val (.slice a18 q18.nodes.length c18), r.val] s fun v s' => K0 s s' ∧ v = .bool HB := fun wf h => by have := holds_spec wf q18 h N18.1 N18.2 r hr; rw [hHB] at this; exact this
    have S21 : ∀ {s : St}, WF s → Sl s κ21 (.slice a21 q21.nodes.length c21) 9 q21.nodes.length (ndC q21.nodes) → Cw Tryz.prog 29 [q21.val (.slice a21 q21.nodes.length c21), r.val] s fun v s' => K0 s s' ∧ v = .bool (HA && HB) := fun wf h => by have := holds_spec wf q21 h N21.1 N21.2 r hr; rw [hH21 r, hHA, hHB] at this; exact this
    have S24 : ∀ {s : St}, WF s → Sl s κ24 (.slice a24 q24.nodes.length c24) 9 q24.nodes.length (ndC q24.nodes) → Cw Tryz.prog 29 [q24.val (.slice a24 q24.nodes.length c24), r.val] s fun v s' => K0 s s' ∧ v = .bool (HA || HB) := fun wf h => by have := holds_spec wf q24 h N24.1 N24.2 r hr; rw [hH24 r, hHA, hHB] at this; exact this
    have S27 : ∀ {s : St}, WF s → Sl s κ27 (.slice a27 q27.nodes.length c27) 9 q27.nodes.length (ndC q27.nodes) → Cw Tryz.prog 29 [q27.val (.slice a27 q27.nodes.length c27), r.val] s fun v s' => K0 s s' ∧ v = .bool (!HA) := fun wf h => by have := holds_spec wf q27 h N27.1 N27.2 r hr; rw [hH27 r, hHA] at this; exact this
    refine Sm.seq ?_
    refine Sm.seqC (fun e L' s' => e = .normal ∧ Hp (fun _ => False) s0 [slA none v1 1 z1.length (z1.map (Value.int .i64)), slA none v2 1 z2.length (z2.map (Value.int .i64)), slA none v3 1 z3.length (z3.map (Value.int .i64))] (blkA p35 p35 r.cells 10 :: [onA κx (.slice ax rows.length cx) 10 rows.length (rvCells rows), blkA p15 p15 (q15.cells (.slice a15 q15.nodes.length c15)) 6, blkA p18 p18 (q18.cells (.slice a18 q18.nodes.length c18)) 6, blkA p21 p21 (q21.cells (.slice a21 q21.nodes.length c21)) 6, blkA p24 p24 (q24.cells (.slice a24 q24.nodes.length c24)) 6, blkA p27 p27 (q27.cells (.slice a27 q27.nodes.length c27)) 6, onA κ15 (.slice a15 q15.nodes.length c15) 9 q15.nodes.length (ndC q15.nodes), onA κ18 (.slice a18 q18.nodes.length c18) 9 q18.nodes.length (ndC q18.nodes), onA κ21 (.slice a21 q21.nodes.length c21) 9 q21.nodes.length (ndC q21.nodes), onA κ24 (.slice a24 q24.nodes.length c24) 9 q24.nodes.length (ndC q24.nodes), onA κ27 (.slice a27 q27.nodes.length c27) 9 q27.nodes.length (ndC q27.nodes)]) s' ∧ Sub [(4, .int .i64 n), (15, .pointer (some ⟨p15, 0, none⟩)), (18, .pointer (some ⟨p18, 0, none⟩)), (21, .pointer (some ⟨p21, 0, none⟩)), (24, .pointer (some ⟨p24, 0, none⟩)), (27, .pointer (some ⟨p27, 0, none⟩)), (33, .int .i64 fl), (35, .pointer (some ⟨p35, 0, none⟩)), (121, .slice ax rows.length cx), (122, .int .i64 (rows.length : Int)), (123, .int .i64 (i : Int)), (161, .bool false)] L') ?_ ?_
    · conv => whnf
      refine ⟨[0, 0, 3, 0, 0, 31, 63, 127, 127, 511, 1023, 2047, 4095, 8191, 8191, 32767, 8191, 8191, 262143, 524287, 1048575, 1048575, 4194303, 8388607, 16777215, 33554431, 67108863, 134217727, 134217727, 536870911, 134217727, 134217727, 4294967295, 8589934591, 17179869183], by decide +kernel, by decide +kernel, ?_⟩
      conv => whnf
      cases HA <;> cases HB
      all_goals
        repeat (first | (first | (refine Br.yes (by first | with_reducible rfl | with_reducible exact beq_self_eq_true _ | rfl) ?_; conv => whnf) | (refine Br.no (by first | with_reducible rfl | with_reducible exact bne_self_eq_false _ | rfl) ?_; conv => whnf)) | (refine hp.loadA (l := q15.cells (.slice a15 q15.nodes.length c15)) (by repeat (first | exact Has.here | apply Has.there | (apply Has.swap; repeat (first | exact HasR.here | apply HasR.there)))) rfl (by rfl) rfl rfl ?_; conv => whnf) | (refine hp.loadA (l := q18.cells (.slice a18 q18.nodes.length c18)) (by repeat (first | exact Has.here | apply Has.there | (apply Has.swap; repeat (first | exact HasR.here | apply HasR.there)))) rfl (by rfl) rfl rfl ?_; conv => whnf) | (refine hp.loadA (l := q21.cells (.slice a21 q21.nodes.length c21)) (by repeat (first | exact Has.here | apply Has.there | (apply Has.swap; repeat (first | exact HasR.here | apply HasR.there)))) rfl (by rfl) rfl rfl ?_; conv => whnf) | (refine hp.loadA (l := q24.cells (.slice a24 q24.nodes.length c24)) (by repeat (first | exact Has.here | apply Has.there | (apply Has.swap; repeat (first | exact HasR.here | apply HasR.there)))) rfl (by rfl) rfl rfl ?_; conv => whnf) | (refine hp.loadA (l := q27.cells (.slice a27 q27.nodes.length c27)) (by repeat (first | exact Has.here | apply Has.there | (apply Has.swap; repeat (first | exact HasR.here | apply HasR.there)))) rfl (by rfl) rfl rfl ?_; conv => whnf) | (refine hp.loadA (l := r.cells) (by repeat (first | exact Has.here | apply Has.there | (apply Has.swap; repeat (first | exact HasR.here | apply HasR.there)))) rfl (by rfl) rfl rfl ?_; conv => whnf) | (refine hp.rst.call (S15 hp.rst.wf (hp.rst.slF (κ := κ15) (v := .slice a15 q15.nodes.length c15) (by repeat (first | exact Rm.here | apply Rm.there)))) ?_; rintro _ s1 rfl h1 k1; (conv => whnf); refine hp.dkN h1 k1 ?_; clear hp h1 k1; intro s hp; conv => whnf) | (refine hp.rst.call (S18 hp.rst.wf (hp.rst.slF (κ := κ18) (v := .slice a18 q18.nodes.length c18) (by repeat (first | exact Rm.here | apply Rm.there)))) ?_; rintro _ s1 rfl h1 k1; (conv => whnf); refine hp.dkN h1 k1 ?_; clear hp h1 k1; intro s hp; conv => whnf) | (refine hp.rst.call (S21 hp.rst.wf (hp.rst.slF (κ := κ21) (v := .slice a21 q21.nodes.length c21) (by repeat (first | exact Rm.here | apply Rm.there)))) ?_; rintro _ s1 rfl h1 k1; (conv => whnf); refine hp.dkN h1 k1 ?_; clear hp h1 k1; intro s hp; conv => whnf) | (refine hp.rst.call (S24 hp.rst.wf (hp.rst.slF (κ := κ24) (v := .slice a24 q24.nodes.length c24) (by repeat (first | exact Rm.here | apply Rm.there)))) ?_; rintro _ s1 rfl h1 k1; (conv => whnf); refine hp.dkN h1 k1 ?_; clear hp h1 k1; intro s hp; conv => whnf) | (refine hp.rst.call (S27 hp.rst.wf (hp.rst.slF (κ := κ27) (v := .slice a27 q27.nodes.length c27) (by repeat (first | exact Rm.here | apply Rm.there)))) ?_; rintro _ s1 rfl h1 k1; (conv => whnf); refine hp.dkN h1 k1 ?_; clear hp h1 k1; intro s hp; conv => whnf) | (refine Om.of (.bool false) (by rfl) ?_; conv => whnf) )
        exact ⟨rfl, hp.pik (by repeat (first | exact Pik.nil | exact Pik.refl _ | exact Rm.here | apply Rm.there | apply Pik.cons | apply Pik.skip)), subK_ok ⟨rfl, rfl, rfl, rfl, rfl, rfl, rfl, rfl, rfl, rfl, rfl, rfl, trivial⟩⟩
    clear hp
    rintro e L' s ⟨rfl, hp, hs⟩
    refine Sm.weak _ hs ?_
    clear hs
    refine Sm.ofW ?_
    conv => whnf
    refine Br.no rfl ?_
    conv => whnf
    refine Sm.seqW ?_
    conv => whnf
    refine Sm.live [4, 15, 18, 21, 24, 27, 33, 35, 36, 121, 122, 123] ?_
    conv => whnf
    refine Sm.seq ?_
    refine Sm.seqW ?_
    conv => whnf
    refine Sm.live [4, 15, 18, 21, 24, 27, 33, 35, 36, 121, 122, 123, 162, 163] ?_
    conv => whnf
    refine Sm.block ?_
    refine Sm.loop ?_
    obtain ⟨V, hV⟩ : ∃ V, ofD (n % 400 - 200) 1 = V := ⟨_, rfl⟩
    have hVc : V.c < w128 := by rw [← hV]; unfold ofD w128; simp only; omega
    obtain ⟨T, hT⟩ : ∃ T : Nat → Bool, (fun j => testedF (sgN fl V j) r) = T := ⟨_, rfl⟩
    have hT3 : cntF T 3 = 1 := by rw [← hT]; exact three fl hf1 hf5 V r
    refine Lp.ofS (α := Nat) (fun x => [(4, .int .i64 n), (15, .pointer (some ⟨p15, 0, none⟩)), (18, .pointer (some ⟨p18, 0, none⟩)), (21, .pointer (some ⟨p21, 0, none⟩)), (24, .pointer (some ⟨p24, 0, none⟩)), (27, .pointer (some ⟨p27, 0, none⟩)), (33, .int .i64 fl), (35, .pointer (some ⟨p35, 0, none⟩)), (36, .int .i64 ((cntF T x : Nat) : Int)), (121, .slice ax rows.length cx), (122, .int .i64 (rows.length : Int)), (123, .int .i64 (i : Int)), (162, signV), (163, .int .i64 ((x : Nat) : Int))])
      (fun x s' => x ≤ 3 ∧ Hp (fun _ => False) s0 [slA none v1 1 z1.length (z1.map (Value.int .i64)), slA none v2 1 z2.length (z2.map (Value.int .i64)), slA none v3 1 z3.length (z3.map (Value.int .i64))] (blkA p35 p35 r.cells 10 :: [onA κx (.slice ax rows.length cx) 10 rows.length (rvCells rows), blkA p15 p15 (q15.cells (.slice a15 q15.nodes.length c15)) 6, blkA p18 p18 (q18.cells (.slice a18 q18.nodes.length c18)) 6, blkA p21 p21 (q21.cells (.slice a21 q21.nodes.length c21)) 6, blkA p24 p24 (q24.cells (.slice a24 q24.nodes.length c24)) 6, blkA p27 p27 (q27.cells (.slice a27 q27.nodes.length c27)) 6, onA κ15 (.slice a15 q15.nodes.length c15) 9 q15.nodes.length (ndC q15.nodes), onA κ18 (.slice a18 q18.nodes.length c18) 9 q18.nodes.length (ndC q18.nodes), onA κ21 (.slice a21 q21.nodes.length c21) 9 q21.nodes.length (ndC q21.nodes), onA κ24 (.slice a24 q24.nodes.length c24) 9 q24.nodes.length (ndC q24.nodes), onA κ27 (.slice a27 q27.nodes.length c27) 9 q27.nodes.length (ndC q27.nodes)]) s')
      (fun x => 3 - x) ?_ 0 (subK_ok (by refine ⟨rfl, rfl, rfl, rfl, rfl, rfl, rfl, rfl, rfl, rfl, rfl, rfl, rfl, rfl, trivial⟩)) ⟨Nat.zero_le _, hp⟩
    clear hp
    rintro j s ⟨hj, hp⟩
    refine Sm.seqW ?_
    conv => whnf
    refine Sm.seq ?_
    refine Sm.ofW ?_
    conv => whnf
    refine Br.mk (fun hq2 => ?_) (fun hq2 => ?_)
    · have hj2 : j < 3 := by have := of_decide_eq_true hq2; omega
      have e7 : IntKind.i64.wrap ((j : Int) + 1) = ((j + 1 : Nat) : Int) := by rw [wi64 (by omega) (by omega)]; omega
      have hcl := cntF_le T j
      conv => whnf
      refine Sm.seq (Sm.mono (Q := fun e L' s' => e = .normal ∧ Hp (fun _ => False) s0 [slA none v1 1 z1.length (z1.map (Value.int .i64)), slA none v2 1 z2.length (z2.map (Value.int .i64)), slA none v3 1 z3.length (z3.map (Value.int .i64))] (blkA p35 p35 r.cells 10 :: [onA κx (.slice ax rows.length cx) 10 rows.length (rvCells rows), blkA p15 p15 (q15.cells (.slice a15 q15.nodes.length c15)) 6, blkA p18 p18 (q18.cells (.slice a18 q18.nodes.length c18)) 6, blkA p21 p21 (q21.cells (.slice a21 q21.nodes.length c21)) 6, blkA p24 p24 (q24.cells (.slice a24 q24.nodes.length c24)) 6, blkA p27 p27 (q27.cells (.slice a27 q27.nodes.length c27)) 6, onA κ15 (.slice a15 q15.nodes.length c15) 9 q15.nodes.length (ndC q15.nodes), onA κ18 (.slice a18 q18.nodes.length c18) 9 q18.nodes.length (ndC q18.nodes), onA κ21 (.slice a21 q21.nodes.length c21) 9 q21.nodes.length (ndC q21.nodes), onA κ24 (.slice a24 q24.nodes.length c24) 9 q24.nodes.length (ndC q24.nodes), onA κ27 (.slice a27 q27.nodes.length c27) 9 q27.nodes.length (ndC q27.nodes)]) s' ∧ Sub [(4, .int .i64 n), (15, .pointer (some ⟨p15, 0, none⟩)), (18, .pointer (some ⟨p18, 0, none⟩)), (21, .pointer (some ⟨p21, 0, none⟩)), (24, .pointer (some ⟨p24, 0, none⟩)), (27, .pointer (some ⟨p27, 0, none⟩)), (33, .int .i64 fl), (35, .pointer (some ⟨p35, 0, none⟩)), (36, .int .i64 ((cntF T (j + 1) : Nat) : Int)), (121, .slice ax rows.length cx), (122, .int .i64 (rows.length : Int)), (123, .int .i64 (i : Int)), (162, signV), (163, .int .i64 ((j : Nat) : Int))] L') ?_ ?_)
      · refine Sm.block ?_
        refine Sm.seqW ?_
        conv => whnf
        refine Om.of _ (signV_at hj2) ?_
        conv => whnf
        refine Sm.live [4, 15, 18, 21, 24, 27, 33, 35, 36, 38, 121, 122, 123, 162, 163] ?_
        conv => whnf
        refine Sm.seqW ?_
        conv => whnf
        refine ⟨[0, 0, 0, 4, 12, 28, 63, 127, 255, 0, 1023], by decide +kernel, by decide +kernel, ?_⟩
        conv => whnf
        refine (pick_spec _ hn (m := 400) (by decide) (by decide)).mono ?_
        rintro _ s1 ⟨h1, rfl⟩
        obtain rfl := h1.symm
        conv => whnf
        refine hp.dkS ?_
        conv => whnf
        have ev : IntKind.i64.wrap (n % 400 - 200) = n % 400 - 200 := wi64 (by omega) (by omega)
        rw [ev]
        refine hp.rst.call (rof_spec hp.rst.wf (n := n % 400 - 200) (by unfold inR; omega) 1) ?_
        rintro _ s1 rfl h1 k1
        conv => whnf
        refine hp.dkN h1 k1 ?_
        clear hp h1 k1
        intro s hp
        conv => whnf
        rw [hV]
        refine hp.rst.lit (cs := (sgN fl V j).cells) (e := 9) (by rfl) ?_
        intro b1 s1 h1 k1
        conv => whnf
        refine hp.dkN h1 k1 ?_
        clear hp h1 k1
        intro s hp
        conv => whnf
        refine hp.loadA (l := r.cells) (by repeat (first | exact Has.here | apply Has.there | (apply Has.swap; repeat (first | exact HasR.here | apply HasR.there)))) rfl (by rfl) rfl rfl ?_
        conv => whnf
        have x7 : Sl (reset s) (some b1) (.slice (some ⟨b1, 0, none⟩) 1 1) 9 1 (ndC [sgN fl V j]) := hp.rst.blkSl (k := b1) (b := b1) (n := 1) (C := (sgN fl V j).cells) (by repeat (first | exact Has.here | apply Has.there | (apply Has.swap; repeat (first | exact HasR.here | apply HasR.there)))) rfl
        refine hp.rst.call (holds_spec hp.rst.wf ⟨[sgN fl V j], 0, 0, false, false, 0⟩ x7 (Nat.le_of_ble_eq_true rfl) (fun m hm => by rw [List.mem_singleton.1 hm]; exact hVc) r hr) ?_
        rintro _ s1 rfl h1 k1
        conv => whnf
        refine hp.dkN h1 k1 ?_
        clear hp h1 k1
        intro s hp
        conv => whnf
        have hTj : holdsF 0 [sgN fl V j] r = T j := by rw [holds_test _ rfl, ← hT]
        rw [hTj]
        refine Sm.live [4, 15, 18, 21, 24, 27, 33, 35, 36, 121, 122, 123, 162, 163, 176] ?_
        conv => whnf
        refine Sm.ofW ?_
        conv => whnf
        have hcn : cntF T (j + 1) = cntF T j + if T j = true then 1 else 0 := rfl
        cases hTb : T j with
        | true =>
          rw [hTb, if_pos rfl] at hcn
          have e8 : IntKind.i64.wrap ((cntF T j : Int) + 1) = ((cntF T (j + 1) : Nat) : Int) := by rw [hcn, wi64 (by omega) (by omega)]; omega
          refine Br.yes rfl ?_
          conv => whnf
          exact ⟨rfl, hp.pik (by repeat (first | exact Pik.nil | exact Pik.refl _ | exact Rm.here | apply Rm.there | apply Pik.cons | apply Pik.skip)), subK_ok ⟨rfl, rfl, rfl, rfl, rfl, rfl, rfl, rfl, congrArg (fun x => some (Value.int .i64 x)) e8, rfl, rfl, rfl, rfl, rfl, trivial⟩⟩
        | false =>
          rw [hTb, if_neg (by decide), Nat.add_zero] at hcn
          refine Br.no rfl ?_
          conv => whnf
          rw [hcn]
          exact ⟨rfl, hp.pik (by repeat (first | exact Pik.nil | exact Pik.refl _ | exact Rm.here | apply Rm.there | apply Pik.cons | apply Pik.skip)), subK_ok ⟨rfl, rfl, rfl, rfl, rfl, rfl, rfl, rfl, rfl, rfl, rfl, rfl, rfl, rfl, trivial⟩⟩
      clear hp
      rintro e L' s ⟨rfl, hp, hs⟩
      refine Sm.weak _ hs ?_
      clear hs
      refine Sm.ofW ?_
      conv => whnf
      exact ⟨j + 1, by (show 3 - (j + 1) < 3 - j); omega, subK_ok (by refine ⟨rfl, rfl, rfl, rfl, rfl, rfl, rfl, rfl, rfl, rfl, rfl, rfl, rfl, congrArg (fun x => some (Value.int .i64 x)) e7, trivial⟩), by omega, hp⟩
    · have hj2 : j = 3 := by have := of_decide_eq_false hq2; omega
      subst hj2
      conv => whnf
      refine Sm.seqW ?_
      conv => whnf
      refine Sm.live [4, 15, 18, 21, 24, 27, 33, 121, 122, 123, 181] ?_
      conv => whnf
      refine Sm.ofW ?_
      conv => whnf
      refine Br.no (by rw [hT3]; rfl) ?_
      conv => whnf
      refine Sm.ofW ?_
      conv => whnf
      exact ⟨i + 1, by (show rows.length - (i + 1) < rows.length - i); omega, subK_ok (by refine ⟨rfl, rfl, rfl, rfl, rfl, rfl, rfl, rfl, rfl, congrArg (fun x => some (Value.int .i64 x)) e6, trivial⟩), hi2, hp.pik (by repeat (first | exact Pik.nil | exact Pik.refl _ | exact Rm.here | apply Rm.there | apply Pik.cons | apply Pik.skip))⟩
  · have hi2 : i = rows.length := by have := of_decide_eq_false hq; omega
    conv => whnf
    refine Sm.seqW ?_
    conv => whnf
    refine hp.call (vknown_spec hp.wf) ?_
    clear hp
    rintro _ s rfl hp _
    conv => whnf
    refine Sm.live [10] ?_
    conv => whnf
    refine Sm.ofW ?_
    conv => whnf
    exact ⟨rfl⟩
end Go.Ev
end
