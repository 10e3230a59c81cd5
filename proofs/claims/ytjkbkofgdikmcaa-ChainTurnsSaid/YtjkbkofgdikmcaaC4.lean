/- Books of chains: what Of does. No condition. -/
import Derived.Test.YtjkbkofgdikmcaaC3
noncomputable section
namespace Go.Ev
open Go.Proofs
set_option linter.unusedVariables false
set_option maxRecDepth 100000

theorem rclone_spec {s : St} (wf : WF s) {κ : Option Nat} {v : Value} {l : List Rc} (h : Sr s κ v l) (hl : l.length ≤ 5000000000000) :
    Cw Try.prog 47 [v] s fun r s' => K0 s s' ∧ Or s.next s' r l := by
  refine Cw.enter Try.func47 rfl rfl ?_
  rcases h.ex with ⟨rfl, h1, h2, rfl⟩ | ⟨b, off, c, C, rfl, hc, hlen, hs, hm⟩
  · conv => whnf
    refine Om.of (.bool true) rfl ?_
    conv => whnf
    refine Br.yes rfl ?_
    conv => whnf
    exact ⟨⟨Kp.refl wf, ⟨.inl ⟨rfl, h1, h2⟩⟩⟩⟩
  · conv => whnf
    refine Om.of (.bool false) rfl ?_
    conv => whnf
    refine Br.no rfl ?_
    conv => whnf
    obtain ⟨v1, s1, e1, o1, k1⟩ := buildSlice0 R52 wf
    refine Om.of (v1, s1) e1 ?_
    conv => whnf
    obtain ⟨v2, s2, e2, o2, k2⟩ := append_own R52 Try.underlying52 rfl k1.wf o1 (elems_sl (h.keep0 k1)) (rcCells_length l) (rcCells_one l) (by omega)
    refine Om.of (v2, s2) e2 ?_
    conv => whnf
    rw [Nat.zero_add, List.nil_append] at o2
    exact ⟨⟨k1.trans k2 fun j hj => .inr (by omega), o2.n k2.wf (Nat.le_refl _)⟩⟩
theorem rclip_spec {s : St} {m : Nat} {v : Value} {l : List Rc} (h : Or m s v l) :
    Cw Try.prog 46 [v] s fun r s' => s' = s ∧ r = v := by
  obtain ⟨a, c, rfl⟩ := h.shape
  refine Cw.enter Try.func46 rfl rfl ?_
  conv => whnf
  refine Om.of _ (clip_ownN R52 h .i64 .i64) ?_
  conv => whnf
  exact ⟨⟨rfl, rfl⟩⟩
theorem getE {E : List Ent} {l : Lb} : (findE l E = none ∧ chOf E l = Ch.zero ∧ vOf E l = .slice none 0 0) ∨ ∃ e ∈ E, e.l = l ∧ findE l E = some e ∧ chOf E l = e.c ∧ vOf E l = e.v := by
  have : ∀ E : List Ent, findE l E = none ∨ ∃ e ∈ E, e.l = l ∧ findE l E = some e := by
    intro E
    induction E with
    | nil => exact .inl rfl
    | cons d E ih =>
      by_cases h : l = d.l
      · exact .inr ⟨d, List.mem_cons_self, h.symm, by simp [findE, h]⟩
      · rcases ih with h1 | ⟨e, h1, h2, h3⟩
        · exact .inl (by simp [findE, h, h1])
        · exact .inr ⟨e, List.mem_cons_of_mem _ h1, h2, by simp [findE, h, h3]⟩
  rcases this E with h | ⟨e, h1, h2, h3⟩
  · exact .inl ⟨h, by simp [chOf, h], by simp [vOf, h]⟩
  · exact .inr ⟨e, h1, h2, h3, by simp [chOf, h3], by simp [vOf, h3]⟩
theorem BookAt.sl {s : St} {p : Value} {kb mb : Nat} {E : List Ent} (h : BookAt s p kb mb E) (l : Lb) : ∃ κ, Sr s κ (vOf E l) (chOf E l).last ∧ (∀ k, κ = some k → famE mb E k) ∧ (chOf E l).last.length ≤ 8 ∧ ∀ r ∈ (chOf E l).last, r.ok := by
  rcases getE (E := E) (l := l) with ⟨_, h2, h3⟩ | ⟨e, h1, _, _, h2, h3⟩
  · rw [h2, h3]
    exact ⟨none, Sl.nil _ _, (fun k h => by cases h), by simp [Ch.zero], by simp [Ch.zero]⟩
  · rw [h2, h3]
    exact ⟨some e.k, (h.own e h1).sl, (fun k hk => by injection hk with hk; exact .inr ⟨e, h1, hk.symm⟩), h.ok e h1⟩
theorem of_spec {s : St} (wf : WF s) {p : Value} {kb mb : Nat} {E : List Ent} (h : BookAt s p kb mb E) (l : Lb) :
    Cw Try.prog 31 [p, l.val] s fun r s' => K0 s s' ∧ ∃ w, r = chVal (chOf E l) w ∧ Or s.next s' w (chOf E l).last := by
  obtain ⟨κ, hsl, _, hl8, _⟩ := h.sl l
  obtain ⟨b0, rfl, g0⟩ := h.ex
  refine Cw.enterS Try.func31 rfl rfl ?_
  refine Sm.seqW ?_
  conv => whnf
  obtain ⟨k1, b1⟩ := new_kp wf l.cells 2
  refine Om.of (.pointer (some ⟨s.next, 0, none⟩), s.new l.cells 2) rfl ?_
  generalize s.new l.cells 2 = s1 at k1 b1 ⊢
  conv => whnf
  obtain ⟨k2, b2⟩ := new_kp k1.wf (chCells Ch.zero (.slice none 0 0)) 4
  refine Om.of (.pointer (some ⟨s1.next, 0, none⟩), s1.new (chCells Ch.zero (.slice none 0 0)) 4) rfl ?_
  generalize s1.new (chCells Ch.zero (.slice none 0 0)) 4 = s2 at k2 b2 ⊢
  conv => whnf
  have KK2 := k1.then k2
  have b1' := k2.blk _ _ _ _ (fun h => h) b1
  have g2 := KK2.blk _ _ _ _ (fun h => h) g0
  have m2 := KK2.map _ _ (fun h => h) h.mp
  refine Sm.seq ?_
  refine Sm.seqW ?_
  conv => whnf
  refine Om.of (.bool false) rfl ?_
  conv => whnf
  refine Sm.ofW ?_
  conv => whnf
  refine Br.no rfl ?_
  conv => whnf
  refine Sm.weak [(0, .pointer (some ⟨b0, 0, none⟩)), (3, .pointer (some ⟨s.next, 0, none⟩)), (4, .pointer (some ⟨s1.next, 0, none⟩))] (.cons rfl (.cons rfl (.cons rfl (Sub.nil _)))) ?_
  refine Sm.seqC (fun e L' s' => e = .normal ∧ K0 s2 s' ∧ Blk s' s2.next s2.next (chCells (chOf E l) (vOf E l)) 4 ∧ Sub [(4, .pointer (some ⟨s1.next, 0, none⟩)), (5, .pointer (some ⟨s2.next, 0, none⟩))] L') ?_ ?_
  · conv => whnf
    refine ⟨[0, 1, 3, 7, 0, 31, 0, 127], by decide +kernel, by decide +kernel, ?_⟩
    conv => whnf
    refine Om.of _ (load_cell Try.underlying86 rfl rfl g2.rd rfl) ?_
    conv => whnf
    refine Om.of _ (load_agg Try.underlying48 rfl b1'.rd (sl_all rfl)) ?_
    conv => whnf
    refine Om.of _ (lookup_book m2.reset l) ?_
    conv => whnf
    refine Dk.same KK2.wf ?_
    conv => whnf
    obtain ⟨k3, b3⟩ := new_kp KK2.wf.reset (chCells Ch.zero (.slice none 0 0)) 4
    refine Om.of (.pointer (some ⟨s2.next, 0, none⟩), (reset s2).new (chCells Ch.zero (.slice none 0 0)) 4) rfl ?_
    have n3 : (reset s2).next = s2.next := rfl
    rw [n3] at b3
    generalize (reset s2).new (chCells Ch.zero (.slice none 0 0)) 4 = s3 at k3 b3 ⊢
    conv => whnf
    refine Dk.nw (k3.low_reset fun _ h => h.elim) ?_
    have k3' := k3.of_reset KK2.wf
    have b3' := b3.relow (s := s2)
    generalize relow s2 s3 = t3 at k3' b3' ⊢
    conv => whnf
    obtain ⟨s4, e4, k4, b4, _⟩ := store_all (P := Try.prog) (t := 54) (i := _) rfl k3'.wf.reset b3'.reset (a := #[.int .i64 (chOf E l).count, .int .u64 ((chOf E l).head.toNat : Int), vOf E l, .int .u64 ((chOf E l).base.toNat : Int)]) (l := chCells (chOf E l) (vOf E l)) rfl rfl rfl (by
      obtain ⟨a, c, hv⟩ := hsl.shape
      rw [hv]; rfl)
    refine Om.of s4 e4 ?_
    conv => whnf
    have b4' := b4.relow (s := t3)
    have k4' := k3'.touch (k4.of_reset k3'.wf) (fun k hk => by subst hk; exact Nat.le_refl _)
    refine Dk.any ?_ ?_
    · conv => whnf
      exact ⟨rfl, k4', b4', .cons rfl (.cons rfl (Sub.nil _))⟩
    · conv => whnf
      exact ⟨rfl, k4', b4', .cons rfl (.cons rfl (Sub.nil _))⟩
  rintro e L' s3 ⟨rfl, k3, b3, hs⟩
  refine Sm.weak _ hs ?_
  clear hs
  have KK3 := KK2.then k3
  have hsl3 := hsl.keep0 KK3
  have b2' := k3.blk _ _ _ _ (fun h => h) b2
  refine Sm.seqW ?_
  conv => whnf
  refine Om.of _ (load_cell Try.underlying52 rfl rfl b3.rd rfl) ?_
  conv => whnf
  refine (rclone_spec KK3.wf hsl3 (by omega)).mono ?_
  rintro v4 s4 ⟨k4, o4⟩
  conv => whnf
  refine (rclip_spec o4).mono ?_
  rintro v5 s5 ⟨rfl, rfl⟩
  conv => whnf
  obtain ⟨a4, c4, rfl⟩ := o4.shape
  have b4 := k4.blk _ _ _ _ (fun h => h) b3
  obtain ⟨s6, e6, k6, b6⟩ := store_cell (P := Try.prog) (t := 52) rfl rfl k4.wf b4 (off := 0 + 2) (v := .slice a4 (chOf E l).last.length c4) (by simp [chCells]) rfl rfl
  refine Om.of s6 e6 ?_
  conv => whnf
  have lt3 := b3.lt KK3.wf
  have lt2 := b2'.lt KK3.wf
  have n2 := k2.next
  have n4 := KK2.next
  have b2'' := k6.blk _ _ _ _ (fun h => by have := b2.lt k2.wf; omega) (k4.blk _ _ _ _ (fun h => h) b2')
  have o6 := o4.keep k6 (fun k h1 h2 h => by omega)
  have KK6 := (KK3.then k4).touch k6 (fun k hk => by subst hk; omega)
  refine Sm.weak [(4, .pointer (some ⟨s1.next, 0, none⟩)), (5, .pointer (some ⟨s2.next, 0, none⟩))] (.cons rfl (.cons rfl (Sub.nil _))) ?_
  refine Sm.seqW ?_
  conv => whnf
  refine Om.of _ (load_agg Try.underlying54 rfl b6.rd (sl_all rfl)) ?_
  conv => whnf
  obtain ⟨s7, e7, k7, b7, _⟩ := store_all (P := Try.prog) (t := 54) (i := _) rfl KK6.wf b2'' (a := #[.int .i64 (chOf E l).count, .int .u64 ((chOf E l).head.toNat : Int), .slice a4 (chOf E l).last.length c4, .int .u64 ((chOf E l).base.toNat : Int)]) (l := chCells (chOf E l) (.slice a4 (chOf E l).last.length c4)) rfl rfl rfl rfl
  refine Om.of s7 e7 ?_
  conv => whnf
  refine Sm.ofW ?_
  conv => whnf
  refine Om.of _ (load_agg Try.underlying54 rfl b7.rd (sl_all rfl)) ?_
  conv => whnf
  have n1 := k1.next
  have n5 := k3.next
  have n6 := b2.lt k2.wf
  exact ⟨KK6.touch k7 (fun k hk => by subst hk; exact n1), .slice a4 (chOf E l).last.length c4, rfl, (o6.keep k7 fun k h1 h2 h => by omega).mono (by omega)⟩
end Go.Ev
