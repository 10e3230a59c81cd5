/- Books of chains: what Add does, walked. No condition. -/
import Derived.Test.YtjkbkofgdikmcaaC5
noncomputable section
namespace Go.Ev
open Go.Proofs
set_option linter.unusedVariables false
set_option maxRecDepth 100000

theorem add_spec {s : St} (wf : WF s) {p : Value} {kb mb : Nat} {E : List Ent} (h : BookAt s p kb mb E) (l : Lb) {r : Rc} (ok : r.ok) :
    Cw Try.prog 30 [p, l.val, r.val] s fun _ s' => Kp (famE mb E) s s' ∧ ∃ E', BookAt s' p kb mb E' ∧ (∀ j, famE mb E' j → famE mb E j ∨ s.next ≤ j) ∧ ∀ l', chOf E' l' = if l' = l then (chOf E l).add r else chOf E l' := by
  obtain ⟨κ, hsl, _, hl8, hoks⟩ := h.sl l
  have hlt := h.lt wf
  have hg := getE (E := E) (l := l)
  obtain ⟨b0, rfl, g0⟩ := h.ex
  refine Cw.enterS Try.func30 rfl rfl ?_
  refine Sm.seqW ?_
  conv => whnf
  obtain ⟨k1, b1⟩ := new_kp wf l.cells 2
  refine Om.of (.pointer (some ⟨s.next, 0, none⟩), s.new l.cells 2) rfl ?_
  have n1 : (s.new l.cells 2).next = s.next + 1 := rfl
  generalize s.new l.cells 2 = s1 at k1 b1 n1 ⊢
  conv => whnf
  obtain ⟨k2, b2⟩ := new_kp k1.wf r.cells 4
  refine Om.of (.pointer (some ⟨s1.next, 0, none⟩), s1.new r.cells 4) rfl ?_
  have n2 : (s1.new r.cells 4).next = s1.next + 1 := rfl
  generalize s1.new r.cells 4 = s2 at k2 b2 n2 ⊢
  conv => whnf
  have KK2 := k1.then k2
  have b1' := k2.blk _ _ _ _ (fun h => h) b1
  have g2 := KK2.blk _ _ _ _ (fun h => h) g0
  have m2 := KK2.map _ _ (fun h => h) h.mp
  refine Sm.seq ?_
  refine Sm.seqW ?_
  conv => whnf
  refine Om.of (.bool false) rfl ?_
  conv => whnf
  refine Sm.ofW ?_
  conv => whnf
  refine Br.no rfl ?_
  conv => whnf
  refine Sm.weak [(0, .pointer (some ⟨b0, 0, none⟩)), (4, .pointer (some ⟨s.next, 0, none⟩)), (5, .pointer (some ⟨s1.next, 0, none⟩))] (.cons rfl (.cons rfl (.cons rfl (Sub.nil _)))) ?_
  refine Sm.seqC (fun e L' s' => e = .normal ∧ K0 s2 s' ∧ Blk s' s2.next s2.next (chCells (chOf E l) (vOf E l)) 4 ∧ Sub [(0, .pointer (some ⟨b0, 0, none⟩)), (4, .pointer (some ⟨s.next, 0, none⟩)), (5, .pointer (some ⟨s1.next, 0, none⟩)), (6, .pointer (some ⟨s2.next, 0, none⟩))] L') ?_ ?_
  · conv => whnf
    refine ⟨[0, 1, 3, 7, 0, 31, 0, 127], by decide +kernel, by decide +kernel, ?_⟩
    conv => whnf
    refine Om.of _ (load_cell Try.underlying86 rfl rfl g2.rd rfl) ?_
    conv => whnf
    refine Om.of _ (load_agg Try.underlying48 rfl b1'.rd (sl_all rfl)) ?_
    conv => whnf
    refine Om.of _ (lookup_book m2.reset l) ?_
    conv => whnf
    refine Dk.same KK2.wf ?_
    conv => whnf
    obtain ⟨k3, b3⟩ := new_kp KK2.wf.reset (chCells Ch.zero (.slice none 0 0)) 4
    refine Om.of (.pointer (some ⟨s2.next, 0, none⟩), (reset s2).new (chCells Ch.zero (.slice none 0 0)) 4) rfl ?_
    have n3 : (reset s2).next = s2.next := rfl
    rw [n3] at b3
    generalize (reset s2).new (chCells Ch.zero (.slice none 0 0)) 4 = s3 at k3 b3 ⊢
    conv => whnf
    refine Dk.nw (k3.low_reset fun _ h => h.elim) ?_
    have k3' := k3.of_reset KK2.wf
    have b3' := b3.relow (s := s2)
    generalize relow s2 s3 = t3 at k3' b3' ⊢
    conv => whnf
    obtain ⟨s4, e4, k4, b4, _⟩ := store_all (P := Try.prog) (t := 54) (i := _) rfl k3'.wf.reset b3'.reset (a := #[.int .i64 (chOf E l).count, .int .u64 ((chOf E l).head.toNat : Int), vOf E l, .int .u64 ((chOf E l).base.toNat : Int)]) (l := chCells (chOf E l) (vOf E l)) rfl rfl rfl (by
      obtain ⟨a, c, hv⟩ := hsl.shape
      rw [hv]; rfl)
    refine Om.of s4 e4 ?_
    conv => whnf
    have b4' := b4.relow (s := t3)
    have k4' := k3'.touch (k4.of_reset k3'.wf) (fun k hk => by subst hk; exact Nat.le_refl _)
    refine Dk.any ?_ ?_
    · conv => whnf
      exact ⟨rfl, k4', b4', .cons rfl (.cons rfl (.cons rfl (.cons rfl (Sub.nil _))))⟩
    · conv => whnf
      exact ⟨rfl, k4', b4', .cons rfl (.cons rfl (.cons rfl (.cons rfl (Sub.nil _))))⟩
  rintro e L' s3 ⟨rfl, k3, b3, hs⟩
  refine Sm.weak _ hs ?_
  clear hs
  have KK3 := KK2.then k3
  have b1'' := k3.blk _ _ _ _ (fun h => h) b1'
  have b2' := k3.blk _ _ _ _ (fun h => h) b2
  have lt3 := b3.lt KK3.wf
  clear b1 b1' b2 g2 m2
  generalize hc : chOf E l = c at hsl hl8 hoks b3 hg ⊢
  generalize hv : vOf E l = v at hsl b3 hg ⊢
  -- Count
  refine Sm.seqW ?_
  conv => whnf
  refine Om.of _ (load_cell Try.underlying3 rfl rfl b3.rd rfl) ?_
  conv => whnf
  obtain ⟨s4, e4, k4, b4⟩ := store_cell (P := Try.prog) (t := 3) rfl rfl KK3.wf b3 (off := 0 + 0) (v := .int .i64 (IntKind.i64.wrap (c.count + 1))) (by simp [chCells]) rfl rfl
  refine Om.of s4 e4 ?_
  conv => whnf
  have KK4 := KK3.touch k4 (fun k hk => by subst hk; omega)
  have b1 := k4.blk _ _ _ _ (fun h => by omega) b1''
  have b2 := k4.blk _ _ _ _ (fun h => by omega) b2'
  clear b1'' b2'
  refine Sm.weak [(0, .pointer (some ⟨b0, 0, none⟩)), (4, .pointer (some ⟨s.next, 0, none⟩)), (5, .pointer (some ⟨s1.next, 0, none⟩)), (6, .pointer (some ⟨s2.next, 0, none⟩))] (.cons rfl (.cons rfl (.cons rfl (.cons rfl (Sub.nil _))))) ?_
  -- Head
  refine Sm.seqW ?_
  conv => whnf
  refine Om.of _ (load_cell Try.underlying46 rfl rfl b4.rd rfl) ?_
  conv => whnf
  refine Om.of _ (load_agg Try.underlying51 rfl b2.rd (sl_all rfl)) ?_
  conv => whnf
  refine (link_spec KK4.wf c.head ok).mono ?_
  rintro _ s5 ⟨k5, rfl⟩
  conv => whnf
  obtain ⟨s6, e6, k6, b6⟩ := store_cell (P := Try.prog) (t := 46) rfl rfl k5.wf (k5.blk _ _ _ _ (fun h => h) b4) (off := 0 + 1) (v := .int .u64 ((linkF c.head r).toNat : Int)) (by simp [chCells]) rfl rfl
  refine Om.of s6 e6 ?_
  conv => whnf
  have KK6 := (KK4.then k5).touch k6 (fun k hk => by subst hk; omega)
  have b1' := k6.blk _ _ _ _ (fun h => by omega) (k5.blk _ _ _ _ (fun h => h) b1)
  have b2' := k6.blk _ _ _ _ (fun h => by omega) (k5.blk _ _ _ _ (fun h => h) b2)
  clear b1 b2 b4
  have lt6 := b6.lt KK6.wf
  refine Sm.weak [(0, .pointer (some ⟨b0, 0, none⟩)), (4, .pointer (some ⟨s.next, 0, none⟩)), (5, .pointer (some ⟨s1.next, 0, none⟩)), (6, .pointer (some ⟨s2.next, 0, none⟩))] (.cons rfl (.cons rfl (.cons rfl (.cons rfl (Sub.nil _))))) ?_
  -- Last
  refine Sm.seqW ?_
  conv => whnf
  refine Om.of _ (load_cell Try.underlying52 rfl rfl b6.rd rfl) ?_
  conv => whnf
  refine Om.of _ (load_agg Try.underlying51 rfl b2'.rd (sl_all rfl)) ?_
  conv => whnf
  obtain ⟨k7, b7⟩ := new_kp KK6.wf r.cells 4
  refine Om.of (.slice (some ⟨s6.next, 0, none⟩) 1 1, s6.new r.cells 4) rfl ?_
  have n7 : (s6.new r.cells 4).next = s6.next + 1 := rfl
  generalize s6.new r.cells 4 = s7 at k7 b7 n7 ⊢
  conv => whnf
  have KK7 := KK6.then k7
  have x7 : Sr s7 (some s6.next) (.slice (some ⟨s6.next, 0, none⟩) 1 1) [r] := Own.sl ⟨_, rfl, b7, rfl⟩
  have app : ∃ v8 s8 k8, evAp Try.prog 52 52 v (.slice (some ⟨s6.next, 0, none⟩) 1 1) s7 = some (v8, s8) ∧ Own s8 k8 v8 4 (c.last.length + 1) (rcCells (c.last ++ [r])) ∧ Kp (fun j => j = k8) s7 s8 ∧
      ((findE l E = none ∧ k8 = s7.next) ∨ ∃ f ∈ E, findE l E = some f ∧ k8 = f.k) := by
    rcases hg with ⟨hn, h2, h3⟩ | ⟨f, hf, _, hs, h2, h3⟩
    · subst h3
      have hcl : c.last = [] := by rw [h2]; rfl
      obtain ⟨v8, s8, e8, o8, k8⟩ := append_nil R52 Try.underlying52 rfl KK7.wf (elems_sl x7) rfl (rcCells_one [r]) (by simp) (by simp)
      rw [hcl]
      exact ⟨v8, s8, s7.next, e8, o8, k8.weak fun _ h => h.elim, .inl ⟨hn, rfl⟩⟩
    · have ho := (h.own f hf).keep0 KK7
      rw [← h2, ← h3] at ho
      obtain ⟨v8, s8, e8, o8, k8⟩ := append_tail R52 Try.underlying52 rfl KK7.wf ho (elems_sl x7) rfl (rcCells_one [r]) (by simp only [List.length_singleton]; omega) (by simp)
      rw [← rcCells_append] at o8
      exact ⟨v8, s8, f.k, e8, o8, k8, .inr ⟨f, hf, hs, rfl⟩⟩
  obtain ⟨v8, s8, f8, e8, o8, k8, hf8⟩ := app
  refine Om.of (v8, s8) e8 ?_
  conv => whnf
  obtain ⟨a8, c8, rfl⟩ := o8.sl.shape
  have g1 := KK7.next
  have hf8' : f8 = s7.next ∨ (f8 < s.next ∧ famE mb E f8 ∧ f8 ≠ kb ∧ f8 ≠ mb) := by
    rcases hf8 with ⟨_, h⟩ | ⟨f, hf, _, h⟩
    · exact .inl h
    · subst h
      exact .inr ⟨hlt.2 _ (.inr ⟨f, hf, rfl⟩), .inr ⟨f, hf, rfl⟩, (h.ne.2 f hf).1, (h.ne.2 f hf).2⟩
  have b1 := k8.blk _ _ _ _ (fun h => by omega) (k7.blk _ _ _ _ (fun h => h) b1')
  have b8 := k8.blk _ _ _ _ (fun h => by omega) (k7.blk _ _ _ _ (fun h => h) b6)
  have KK8 : Kp (fun j => j = f8) s s8 := K0.then KK7 k8
  clear b1' b2' b6 b7 x7
  obtain ⟨s9, e9, k9, b9⟩ := store_cell (P := Try.prog) (t := 52) rfl rfl k8.wf b8 (off := 0 + 2) (v := .slice a8 (c.last.length + 1) c8) (by simp [chCells]) rfl rfl
  refine Om.of s9 e9 ?_
  conv => whnf
  have KK9 : Kp (fun j => j = f8) s s9 := KK8.trans k9 fun j hj => .inr (by omega)
  have b1' := k9.blk _ _ _ _ (fun h => by omega) b1
  have o9 := o8.keep k9 (fun h => by omega)
  clear b1 b8
  refine Sm.weak [(0, .pointer (some ⟨b0, 0, none⟩)), (4, .pointer (some ⟨s.next, 0, none⟩)), (6, .pointer (some ⟨s2.next, 0, none⟩))] (.cons rfl (.cons rfl (.cons rfl (Sub.nil _)))) ?_
  -- Base
  refine Sm.seqC (fun e L' s' => e = .normal ∧ Kp (fun j => j = f8) s s' ∧ Blk s' s.next s.next l.cells 2 ∧ (∃ v9, Blk s' s2.next s2.next (chCells (c.add r) v9) 4 ∧ OwnT s' f8 v9 4 (c.add r).last.length (rcCells (c.add r).last)) ∧
    Sub [(0, .pointer (some ⟨b0, 0, none⟩)), (4, .pointer (some ⟨s.next, 0, none⟩)), (6, .pointer (some ⟨s2.next, 0, none⟩))] L') ?_ ?_
  · conv => whnf
    refine Om.of _ (load_cell Try.underlying52 rfl rfl b9.rd rfl) ?_
    conv => whnf
    refine Br.mk (fun hq => ?_) (fun hq => ?_)
    · have hq : 8 < c.last.length + 1 := by have := of_decide_eq_true hq; omega
      conv => whnf
      have hadd : c.add r = ⟨IntKind.i64.wrap (c.count + 1), linkF c.head r, (c.last ++ [r]).drop 1, linkF c.base ((c.last ++ [r]).head?.getD r)⟩ := by unfold Ch.add; rw [if_pos hq]
      refine ⟨[0, 1, 0, 4, 12, 28, 63, 127, 255], by decide +kernel, by decide +kernel, ?_⟩
      conv => whnf
      refine Om.of _ (load_cell Try.underlying46 rfl rfl b9.rd rfl) ?_
      conv => whnf
      refine Om.of _ (load_cell Try.underlying52 rfl rfl b9.rd rfl) ?_
      conv => whnf
      have o9s : Sr s9 (some f8) (.slice a8 (c.last.length + 1) c8) (c.last ++ [r]) := by
        have := o9.sl
        show Sl _ _ _ _ (c.last ++ [r]).length _
        rw [List.length_append]; exact this
      have h0 : 0 < (c.last ++ [r]).length := by simp
      obtain ⟨a0, i1, i2⟩ := index_rc o9s .i64 h0
      refine Om.of _ i1 ?_
      conv => whnf
      refine Om.of _ i2 ?_
      conv => whnf
      have h0r : (c.last ++ [r])[0].ok := by
        have hm := List.getElem_mem h0
        rcases List.mem_append.1 hm with g | g
        · exact hoks _ g
        · rw [List.mem_singleton] at g; rw [g]; exact ok
      refine (link_spec KK9.wf.reset c.base h0r).mono ?_
      rintro _ t1 ⟨q1, rfl⟩
      conv => whnf
      refine Dk.nw (q1.low_reset fun _ h => h.elim) ?_
      have q1' := q1.of_reset KK9.wf
      have KK10 := KK9.then0 q1'
      have b10 := q1'.blk _ _ _ _ (fun h => h) b9
      have b1'' := q1'.blk _ _ _ _ (fun h => h) b1'
      have o10 := o9.keep0 q1'
      generalize relow s9 t1 = t2 at q1' KK10 b10 b1'' o10 ⊢
      conv => whnf
      obtain ⟨s11, e11, k11, b11⟩ := store_cell (P := Try.prog) (t := 46) rfl rfl KK10.wf.reset b10.reset (off := 0 + 3) (v := .int .u64 ((linkF c.base (c.last ++ [r])[0]).toNat : Int)) (by simp [chCells]) rfl rfl
      refine Om.of s11 e11 ?_
      conv => whnf
      have k11' := k11.of_reset KK10.wf
      have KK11 : Kp (fun j => j = f8) s (relow t2 s11) := KK10.trans k11' fun j hj => .inr (by omega)
      have b11' := b11.relow (s := t2)
      have b1t := k11'.blk _ _ _ _ (fun h => by omega) b1''
      have o11 := o10.keep k11' (fun h => by omega)
      obtain ⟨v12, e12, o12⟩ := tail_from R52 o11.tail .i64 (i := 1) (by omega)
      obtain ⟨a12, c12, rfl⟩ := o12.sl.shape
      obtain ⟨s13, e13, k13, b13⟩ := store_cell (P := Try.prog) (t := 52) rfl rfl KK11.wf b11' (off := 0 + 2) (v := .slice a12 (c.last.length + 1 - 1) c12) (by simp [chCells]) rfl rfl
      have KK13 : Kp (fun j => j = f8) s s13 := KK11.trans k13 fun j hj => .inr (by omega)
      have hh : (c.last ++ [r]).head?.getD r = (c.last ++ [r])[0] := by rw [List.head?_eq_getElem?, List.getElem?_eq_getElem h0]; rfl
      have fin : Kp (fun j => j = f8) s s13 ∧ Blk s13 s.next s.next l.cells 2 ∧ ∃ v9, Blk s13 s2.next s2.next (chCells (c.add r) v9) 4 ∧ OwnT s13 f8 v9 4 (c.add r).last.length (rcCells (c.add r).last) := by
        refine ⟨KK13, k13.blk _ _ _ _ (fun h => by omega) b1t, .slice a12 (c.last.length + 1 - 1) c12, ?_, ?_⟩
        · rw [hadd, hh]; exact b13
        · rw [hadd]
          have := o12.keep k13 (fun h => by omega)
          rw [show (1 : Nat) * 4 = 1 * 4 from rfl, rcCells_drop] at this
          have e : ((c.last ++ [r]).drop 1).length = c.last.length + 1 - 1 := by simp
          show OwnT s13 f8 _ 4 ((c.last ++ [r]).drop 1).length _
          rw [e]; exact this
      refine Dk.any ?_ ?_
      · conv => whnf
        refine Om.of _ (load_cell Try.underlying52 rfl rfl b11'.rd rfl) ?_
        conv => whnf
        refine Om.of _ e12 ?_
        conv => whnf
        refine Om.of s13 e13 ?_
        conv => whnf
        exact ⟨rfl, fin.1, fin.2.1, fin.2.2, .cons rfl (.cons rfl (.cons rfl (Sub.nil _)))⟩
      · conv => whnf
        refine Om.of _ (load_cell Try.underlying52 rfl rfl b11'.rd rfl) ?_
        conv => whnf
        refine Om.of _ e12 ?_
        conv => whnf
        refine Om.of s13 e13 ?_
        conv => whnf
        exact ⟨rfl, fin.1, fin.2.1, fin.2.2, .cons rfl (.cons rfl (.cons rfl (Sub.nil _)))⟩
    · have hq : ¬ 8 < c.last.length + 1 := by have := of_decide_eq_false hq; omega
      conv => whnf
      have hadd : c.add r = ⟨IntKind.i64.wrap (c.count + 1), linkF c.head r, c.last ++ [r], c.base⟩ := by unfold Ch.add; rw [if_neg hq]
      refine ⟨rfl, KK9, b1', ⟨.slice a8 (c.last.length + 1) c8, ?_, ?_⟩, .cons rfl (.cons rfl (.cons rfl (Sub.nil _)))⟩
      · rw [hadd]; exact b9
      · rw [hadd]
        show OwnT s9 f8 _ 4 (c.last ++ [r]).length _
        rw [List.length_append]; exact o9.tail
  rintro e L' s14 ⟨rfl, KK14, b14, ⟨v9, bc, ow⟩, hs⟩
  refine Sm.weak _ hs ?_
  clear hs
  have g14 := KK14.blk _ _ _ _ (fun hh => by omega) g0
  have m14 := KK14.map _ _ (fun hh => by have := hlt.2 mb (.inl rfl); omega) h.mp
  refine Sm.ofW ?_
  conv => whnf
  refine ⟨[0, 1, 3, 7, 0, 0, 63], by decide +kernel, by decide +kernel, ?_⟩
  conv => whnf
  refine Om.of _ (load_cell Try.underlying86 rfl rfl g14.rd rfl) ?_
  conv => whnf
  refine Om.of _ (load_agg Try.underlying48 rfl b14.rd (sl_all rfl)) ?_
  conv => whnf
  refine Om.of _ (load_agg Try.underlying54 rfl bc.rd (sl_all rfl)) ?_
  conv => whnf
  obtain ⟨s15, e15, k15, m15, _⟩ := update_book KK14.wf.reset m14.reset ⟨l, c.add r, v9, f8⟩
  refine Om.of s15 e15 ?_
  conv => whnf
  have k15' := k15.of_reset KK14.wf
  have m15' := m15.relow (s := s14)
  have ow' := ow.keep k15' (fun hh => by have := hlt.2 mb (.inl rfl); omega)
  have KK15 : Kp (fun j => j = f8 ∨ j = mb) s (relow s14 s15) := (KK14.weak fun j hj => .inl (.inl hj)).trans k15' fun j hj => .inl (.inr hj)
  have len8 : (c.add r).last.length ≤ 8 ∧ ∀ q ∈ (c.add r).last, q.ok := by
    have hall : ∀ q ∈ c.last ++ [r], q.ok := fun q hq => by
      rcases List.mem_append.1 hq with g | g
      · exact hoks _ g
      · rw [List.mem_singleton] at g; rw [g]; exact ok
    unfold Ch.add
    by_cases hq : 8 < c.last.length + 1
    · rw [if_pos hq]
      exact ⟨by simp; omega, fun q hq => hall q (List.mem_of_mem_drop hq)⟩
    · rw [if_neg hq]
      exact ⟨by simp; omega, hall⟩
  have put := h.put (e := ⟨l, c.add r, v9, f8⟩) KK15 (fun j hj => by
    rcases hj with rfl | rfl
    · rcases hf8 with ⟨_, g⟩ | ⟨f, _, g2, g3⟩
      · exact .inl (by omega)
      · exact .inr (.inr ⟨f, g2, g3⟩)
    · exact .inr (.inl rfl)) (fun hh => by
    rcases hh with hh | hh
    · omega
    · exact h.ne.1 hh) m15' ow' len8 wf (by
    rcases hf8 with ⟨g2, g⟩ | ⟨f, _, g2, g3⟩
    · exact .inl ⟨g2, by show s.next ≤ f8; omega⟩
    · exact .inr ⟨f, g2, g3⟩)
  have KKf : Kp (famE mb E) s (relow s14 s15) := KK15.weak fun j hj => by
    rcases hj with rfl | rfl
    · rcases hf8' with g | ⟨_, g, _⟩
      · exact .inr (by omega)
      · exact .inl g
    · exact .inl (.inl rfl)
  have fin : Kp (famE mb E) s (relow s14 s15) ∧ ∃ E', BookAt (relow s14 s15) (.pointer (some ⟨b0, 0, none⟩)) kb mb E' ∧ (∀ j, famE mb E' j → famE mb E j ∨ s.next ≤ j) ∧ ∀ l', chOf E' l' = if l' = l then c.add r else chOf E l' :=
    ⟨KKf, _, put.1, put.2, fun l' => chOf_put _ _ _⟩
  refine Dk.any ?_ ?_
  · conv => whnf
    exact ⟨fin⟩
  · conv => whnf
    exact ⟨fin⟩
end Go.Ev
