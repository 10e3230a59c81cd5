/- What ChainOwn says. No condition. -/
import Derived.Test.YtjkbkofgdikmcaaC10
noncomputable section
namespace Go.Ev
open Go.Proofs
set_option linter.unusedVariables false
set_option maxRecDepth 100000

theorem R58 : SlT Try.prog 58 65 5 48 (.agg #[.int .i64 0, .int .i64 0, .int .i64 0, .int .i64 0, .string ⟨#[]⟩]) := ⟨Try.underlying58, ⟨_, rfl, rfl, rfl, rfl⟩, rfl, rfl, by decide, by decide⟩
def rwCells (l : List Rw) : List Value := (l.map Rw.cells).flatten
theorem rw_at {l : List Rw} {i : Nat} (h : i < l.length) : ((rwCells l).drop (i * 5)).take 5 = l[i].cells := by
  induction i generalizing l with
  | zero =>
    cases l with
    | nil => simp at h
    | cons x l => rfl
  | succ i ih =>
    cases l with
    | nil => simp at h
    | cons x l =>
      show ((x.cells ++ rwCells l).drop ((i + 1) * 5)).take 5 = _
      rw [show (i + 1) * 5 = 5 + i * 5 by omega, ← List.drop_drop]
      show ((rwCells l).drop (i * 5)).take 5 = _
      rw [ih (by simpa using h)]
      rfl
theorem rw_cell {l : List Rw} {i j : Nat} (h : i < l.length) (hj : j < 5) : (rwCells l)[i * 5 + j]? = l[i].cells[j]? := by
  rw [← rw_at h, List.getElem?_take, if_pos hj, List.getElem?_drop]
theorem rc_cell {l : List Rc} {i j : Nat} (h : i < l.length) (hj : j < 4) : (rcCells l)[i * 4 + j]? = l[i].cells[j]? := by
  have h4 : j < l[i].cells.length := hj
  rw [← List.getElem?_drop, rcCells_drop, List.drop_eq_getElem_cons h]
  show (l[i].cells ++ rcCells (l.drop (i + 1)))[j]? = _
  rw [List.getElem?_append_left h4]
/-- A field of an element. -/
theorem index_fld {P : Program} {t et sz by_ : Nat} {z : Value} (T : SlT P t et sz by_ z) {s : St} {κ : Option Nat} {v : Value} {n i : Nat} {cs : List Value} (h : Sl s κ v sz n cs) (k : IntKind) (hi : i < n) :
    ∃ b off C, evIndexAddr P t v (.int k (i : Int)) = some (.pointer (some ⟨b, off, none⟩)) ∧ s.rd b = some C ∧ ∀ j, j < sz → C[off + j]? = cs[i * sz + j]? := by
  obtain ⟨j, hi1, hi2, hi3, hi4⟩ := T.hi
  rcases h.ex with ⟨rfl, rfl, rfl, rfl⟩ | ⟨b, off, c, C, rfl, hc, hl, hs, hm⟩
  · omega
  · have hr : s.rd b = some C := by
      rcases hm with ⟨k, _, hm⟩ | ⟨_, hm⟩
      · exact hm.rd
      · exact hm.rd
    have hle : i * sz + sz ≤ n * sz := by
      have : (i + 1) * sz ≤ n * sz := Nat.mul_le_mul_right _ hi
      rw [Nat.add_mul, Nat.one_mul] at this; exact this
    refine ⟨b, off + i * sz, C, ?_, hr, fun j hj => ?_⟩
    · show (match P.underlying t, Value.slice (some ⟨b, off, none⟩) n c, Value.int k (.ofNat i) with
        | some (.slice e), .slice (some a) n _, .int _ (.ofNat i) => match Nat.blt i n, P.info? e with
          | true, some j => some (Value.pointer (some ⟨a.block, a.off + i * j.size, none⟩))
          | _, _ => none
        | some (.array n e), .pointer (some a), .int _ (.ofNat i) => match Nat.blt i n, P.info? e with
          | true, some j => some (Value.pointer (some ⟨a.block, a.off + i * j.size, none⟩))
          | _, _ => none
        | _, _, _ => none) = _
      rw [T.hu]
      simp only [blt_of hi, hi1, hi2]
    · obtain ⟨g1, g2, g3, g4⟩ := sl_some hs
      have hlt : i * sz + j < cs.length := by omega
      have := g4 (i * sz + j) _ (List.getElem?_eq_getElem hlt)
      rw [List.getElem?_eq_getElem hlt, ← this]
      congr 1; omega
theorem index_rw {s : St} {κ : Option Nat} {v : Value} {l : List Rw} (h : Sl s κ v 5 l.length (rwCells l)) (k : IntKind) {i : Nat} (hi : i < l.length) :
    ∃ a, evIndexAddr Try.prog 58 v (.int k (i : Int)) = some (.pointer (some a)) ∧ evLoad Try.prog 65 (.pointer (some a)) s = some l[i].val := by
  obtain ⟨a, e1, e2⟩ := index_slN R58 Try.underlying65 h k hi
  rw [rw_at hi] at e2
  exact ⟨a, e1, e2⟩
def oLab : Lb := ⟨2, 3⟩
theorem own_walk24 {s : St} (wf : WF s) {v : Value} {l : List Rw} (hv : Sl s none v 5 l.length (rwCells l)) (ok : ∀ x ∈ l, x.ok) (hl : l.length ≤ 140737488351232) :
    Cw Try.prog 11 [v] s fun r _ => r = .bool true := by
  obtain ⟨a, c, rfl⟩ := hv.shape
  have okr : ∀ i (h : i < l.length), l[i].r.ok := fun i h => (ok _ (List.getElem_mem h)).r
  refine Cw.enterS Try.func11 rfl rfl ?_
  refine Sm.seqW ?_
  conv => whnf
  refine Sm.seqW ?_
  conv => whnf
  refine (cnew_spec wf).mono ?_
  rintro p s1 ⟨k1, kb, mb, n1, n2, h1⟩
  obtain ⟨b0, rfl, _⟩ := h1.ex
  conv => whnf
  refine Sm.seq ?_
  refine Sm.seqW ?_
  conv => whnf
  refine (cknown_spec k1.wf).mono ?_
  rintro _ s2 ⟨rfl, k2⟩
  conv => whnf
  repeat (refine Br.no rfl ?_; conv => whnf)
  refine Om.of (.bool false) rfl ?_
  conv => whnf
  repeat (refine Br.no rfl ?_; conv => whnf)
  refine Sm.ofW ?_
  conv => whnf
  refine Br.no rfl ?_
  conv => whnf
  have P0 : Value := .pointer (some ⟨b0, 0, none⟩)
  refine Sm.weak [(0, .slice a l.length c), (3, .pointer (some ⟨b0, 0, none⟩))] (.cons rfl (.cons rfl (Sub.nil _))) ?_
  have K2 := k1.then k2
  have h2 := h1.keep0 k2
  have lt1 := h1.lt k1.wf
  have n12 := k2.next
  refine Sm.seqW ?_
  conv => whnf
  obtain ⟨k3, b3⟩ := new_kp K2.wf [.int .u64 0, .int .i64 0] 2
  refine Om.of (.pointer (some ⟨s2.next, 0, none⟩), s2.new [.int .u64 0, .int .i64 0] 2) rfl ?_
  have n3 : (s2.new [.int .u64 0, .int .i64 0] 2).next = s2.next + 1 := rfl
  generalize s2.new [.int .u64 0, .int .i64 0] 2 = s3 at k3 b3 n3 ⊢
  conv => whnf
  obtain ⟨s4, e4, k4, b4, n4⟩ := store_all (P := Try.prog) (t := 48) (i := _) rfl k3.wf b3 (a := #[.int .u64 2, .int .i64 3]) (l := oLab.cells) rfl rfl rfl rfl
  refine Om.of s4 e4 ?_
  conv => whnf
  have K24 : K0 s2 s4 := k3.touch k4 (fun k hk => by subst hk; exact Nat.le_refl _)
  have K4 := K2.then K24
  have h4 := h2.keep0 K24
  have m02 := K2.next
  refine Sm.seqW ?_
  conv => whnf
  refine Sm.seq ?_
  refine Sm.seqW ?_
  conv => whnf
  refine Sm.block ?_
  refine Sm.loop ?_
  have fam0 : ∀ j, famE mb [] j → s.next ≤ j ∧ j ≠ s2.next := fun j hj => by
    have := lt1.2 j hj
    rcases hj with rfl | ⟨e, he, _⟩
    · exact ⟨n2, by omega⟩
    · cases he
  -- records so far
  let rs : Nat → List Rc := fun i => (l.take i).map Rw.r
  have rsl : ∀ i, i ≤ l.length → (rs i).length = i := fun i hi => by simp [rs]; omega
  have rss : ∀ i (h : i < l.length), rs (i + 1) = rs i ++ [l[i].r] := fun i h => by
    show (l.take (i + 1)).map Rw.r = _
    rw [List.take_succ_eq_append_getElem h, List.map_append]; rfl
  refine Lp.ofS (α := Nat) (fun i => [(0, .slice a l.length c), (3, .pointer (some ⟨b0, 0, none⟩)), (4, .pointer (some ⟨s2.next, 0, none⟩)), (5, .int .u64 ((((rs i).foldl linkF 0).toNat : Nat) : Int)), (19, .slice a l.length c), (20, .int .i64 (l.length : Int)), (21, .int .i64 (i : Int))])
    (fun i s' => i ≤ l.length ∧ K0 s s' ∧ s2.next < s'.next ∧ Blk s' s2.next s2.next oLab.cells 2 ∧ ∃ E, BookAt s' (.pointer (some ⟨b0, 0, none⟩)) kb mb E ∧ (∀ j, famE mb E j → s.next ≤ j ∧ j ≠ s2.next) ∧ chOf E oLab = chN (rs i) ∧ ∀ l', l' ≠ oLab → chOf E l' = Ch.zero)
    (fun i => l.length - i) ?_ 0 (.cons rfl (.cons rfl (.cons rfl (.cons rfl (.cons rfl (.cons rfl (.cons rfl (Sub.nil _))))))))
    ⟨by omega, K4, by omega, b4, [], h4, fam0, rfl, fun _ _ => rfl⟩
  rintro i s5 ⟨hi, K5, n5, b5, E, h5, fE, cE, zE⟩
  have hv5 := hv.keep0 K5
  refine Sm.seqW ?_
  conv => whnf
  refine Sm.seqW ?_
  conv => whnf
  refine Br.mk (fun hc => ?_) (fun hc => ?_)
  rotate_left
  · have hc := of_decide_eq_false hc
    conv => whnf
    refine Sm.seqW ?_
    conv => whnf
    refine (of_spec K5.wf h5 ⟨0, 0⟩).mono ?_
    rintro _ s6 ⟨k6, w, rfl, o6⟩
    rw [zE _ (by decide)]
    conv => whnf
    refine Sm.ofW ?_
    conv => whnf
    exact ⟨rfl⟩
  have hc : i < l.length := by have := of_decide_eq_true hc; omega
  conv => whnf
  refine Sm.seq (Sm.block ?_)
  refine Sm.weak [(0, .slice a l.length c), (3, .pointer (some ⟨b0, 0, none⟩)), (4, .pointer (some ⟨s2.next, 0, none⟩)), (5, .int .u64 ((((rs i).foldl linkF 0).toNat : Nat) : Int)), (19, .slice a l.length c), (20, .int .i64 (l.length : Int)), (21, .int .i64 (i : Int))] (.cons rfl (.cons rfl (.cons rfl (.cons rfl (.cons rfl (.cons rfl (.cons rfl (Sub.nil _)))))))) ?_
  refine Sm.seqW ?_
  conv => whnf
  obtain ⟨ax, i1, i2⟩ := index_rw hv5 .i64 hc
  refine Om.of _ i1 ?_
  conv => whnf
  refine Om.of _ i2 ?_
  conv => whnf
  obtain ⟨k6, b6⟩ := new_kp K5.wf [.int .i64 0, .int .i64 0, .int .i64 0, .int .i64 0, .string ⟨#[]⟩] 5
  refine Om.of (.pointer (some ⟨s5.next, 0, none⟩), s5.new [.int .i64 0, .int .i64 0, .int .i64 0, .int .i64 0, .string ⟨#[]⟩] 5) rfl ?_
  have n6 : (s5.new [.int .i64 0, .int .i64 0, .int .i64 0, .int .i64 0, .string ⟨#[]⟩] 5).next = s5.next + 1 := rfl
  generalize s5.new [.int .i64 0, .int .i64 0, .int .i64 0, .int .i64 0, .string ⟨#[]⟩] 5 = s6 at k6 b6 n6 ⊢
  conv => whnf
  obtain ⟨s7, e7, k7, b7, n7⟩ := store_all (P := Try.prog) (t := 65) (i := _) rfl k6.wf b6 (a := #[.int .i64 l[i].l, .int .i64 l[i].r.who, .int .i64 l[i].r.verb, .int .i64 l[i].r.what, .string l[i].r.text]) (l := l[i].cells) rfl rfl rfl rfl
  refine Om.of s7 e7 ?_
  conv => whnf
  have K57 : K0 s5 s7 := k6.touch k7 (fun k hk => by subst hk; exact Nat.le_refl _)
  have b5' := K57.blk _ _ _ _ (fun h => h) b5
  have h7 := h5.keep0 K57
  have K7 := K5.then K57
  have lt5 := h5.lt K5.wf
  have m05 := K5.next
  refine Sm.weak [(0, .slice a l.length c), (3, .pointer (some ⟨b0, 0, none⟩)), (4, .pointer (some ⟨s2.next, 0, none⟩)), (5, .int .u64 ((((rs i).foldl linkF 0).toNat : Nat) : Int)), (6, .int .i64 (i : Int)), (7, .pointer (some ⟨s5.next, 0, none⟩)), (19, .slice a l.length c), (20, .int .i64 (l.length : Int)), (21, .int .i64 (i : Int))] (.cons rfl (.cons rfl (.cons rfl (.cons rfl (.cons rfl (.cons rfl (.cons rfl (.cons rfl (.cons rfl (Sub.nil _)))))))))) ?_
  -- added
  refine Sm.seqC (fun e L' s' => e = .normal ∧ Kp (famE mb E) s7 s' ∧ (∃ E', BookAt s' (.pointer (some ⟨b0, 0, none⟩)) kb mb E' ∧ (∀ j, famE mb E' j → famE mb E j ∨ s7.next ≤ j) ∧ ∀ l', chOf E' l' = if l' = oLab then (chOf E oLab).add l[i].r else chOf E l') ∧
    Sub [(0, .slice a l.length c), (3, .pointer (some ⟨b0, 0, none⟩)), (4, .pointer (some ⟨s2.next, 0, none⟩)), (5, .int .u64 ((((rs i).foldl linkF 0).toNat : Nat) : Int)), (6, .int .i64 (i : Int)), (7, .pointer (some ⟨s5.next, 0, none⟩)), (19, .slice a l.length c), (20, .int .i64 (l.length : Int)), (21, .int .i64 (i : Int))] L') ?_ ?_
  · conv => whnf
    refine ⟨[0, 0, 0, 4, 15], by decide +kernel, by decide +kernel, ?_⟩
    conv => whnf
    refine Om.of _ (load_agg Try.underlying48 rfl b5'.rd (sl_all rfl)) ?_
    conv => whnf
    refine Om.of _ (load_agg Try.underlying65 rfl b7.rd (sl_all rfl)) ?_
    conv => whnf
    refine (record_spec K7.wf.reset l[i]).mono ?_
    rintro _ s8 ⟨k8, rfl⟩
    conv => whnf
    refine Dk.nw (k8.low_reset fun _ h => h.elim) ?_
    have k8' := k8.of_reset K7.wf
    have h8 := h7.keep0 k8'
    generalize relow s7 s8 = t8 at k8' h8 ⊢
    conv => whnf
    refine (add_spec k8'.wf.reset h8.reset oLab (okr i hc)).mono ?_
    rintro _ s9 ⟨k9, E', h9, f9, g9⟩
    conv => whnf
    have k9' := k9.of_reset k8'.wf
    have q9 := h9.relow (s := t8)
    have fin : Kp (famE mb E) s7 (relow t8 s9) ∧ ∃ E', BookAt (relow t8 s9) (.pointer (some ⟨b0, 0, none⟩)) kb mb E' ∧ (∀ j, famE mb E' j → famE mb E j ∨ s7.next ≤ j) ∧ ∀ l', chOf E' l' = if l' = oLab then (chOf E oLab).add l[i].r else chOf E l' :=
      ⟨K0.then k8' k9', E', q9, (fun j hj => (f9 j hj).imp (fun h => h) fun h => Nat.le_trans k8'.next h), g9⟩
    refine Dk.any ?_ ?_
    · conv => whnf
      exact ⟨rfl, fin.1, fin.2, .cons rfl (.cons rfl (.cons rfl (.cons rfl (.cons rfl (.cons rfl (.cons rfl (.cons rfl (.cons rfl (Sub.nil _)))))))))⟩
    · conv => whnf
      exact ⟨rfl, fin.1, fin.2, .cons rfl (.cons rfl (.cons rfl (.cons rfl (.cons rfl (.cons rfl (.cons rfl (.cons rfl (.cons rfl (Sub.nil _)))))))))⟩
  rintro e L' s8 ⟨rfl, k8, ⟨E2, h8, f8, g8⟩, hs⟩
  refine Sm.weak _ hs ?_
  clear hs
  have c8 : chOf E2 oLab = chN (rs (i + 1)) := by rw [g8, if_pos rfl, cE, rss i hc, chN_snoc]
  have z8 : ∀ l', l' ≠ oLab → chOf E2 l' = Ch.zero := fun l' hl' => by rw [g8, if_neg hl']; exact zE l' hl'
  have lt7 := h7.lt K7.wf
  have fE2 : ∀ j, famE mb E2 j → s.next ≤ j ∧ j ≠ s2.next ∧ j ≠ s5.next := fun j hj => by
    rcases f8 j hj with g | g
    · have := fE j g; have := lt5.2 j g; exact ⟨by omega, by omega, by omega⟩
    · exact ⟨by omega, by omega, by omega⟩
  have b58 := k8.blk _ _ _ _ (fun h => (fE _ h).2 rfl) b5'
  have b78 := k8.blk _ _ _ _ (fun h => by have := lt5.2 _ h; omega) b7
  have K8 : K0 s s8 := K7.touch k8 (fun j hj => (fE j hj).1)
  have hlen : (rs (i + 1)).length = i + 1 := rsl (i + 1) hc
  have isC := chN_is (rs (i + 1)) (by omega)
  clear b5' b7 b6 h5 h7 b5
  -- the head
  refine Sm.seqW ?_
  conv => whnf
  refine Om.of _ (load_agg Try.underlying65 rfl b78.rd (sl_all rfl)) ?_
  conv => whnf
  refine (record_spec K8.wf l[i]).mono ?_
  rintro _ s9 ⟨k9, rfl⟩
  conv => whnf
  refine (link_spec k9.wf ((rs i).foldl linkF 0) (okr i hc)).mono ?_
  rintro _ s10 ⟨k10, rfl⟩
  conv => whnf
  have eh : linkF ((rs i).foldl linkF 0) l[i].r = (rs (i + 1)).foldl linkF 0 := by rw [rss i hc, List.foldl_append]; rfl
  rw [eh]
  have k810 := k9.then k10
  have K10 := K8.then k810
  have h10 := h8.keep0 k810
  have b510 := k810.blk _ _ _ _ (fun h => h) b58
  have b710 := k810.blk _ _ _ _ (fun h => h) b78
  have n810 := k810.next
  have n78 := k8.next
  refine Sm.weak [(0, .slice a l.length c), (3, .pointer (some ⟨b0, 0, none⟩)), (4, .pointer (some ⟨s2.next, 0, none⟩)), (5, .int .u64 ((((rs (i + 1)).foldl linkF 0).toNat : Nat) : Int)), (6, .int .i64 (i : Int)), (7, .pointer (some ⟨s5.next, 0, none⟩)), (19, .slice a l.length c), (20, .int .i64 (l.length : Int)), (21, .int .i64 (i : Int))] (.cons rfl (.cons rfl (.cons rfl (.cons rfl (.cons rfl (.cons rfl (.cons rfl (.cons rfl (.cons rfl (Sub.nil _)))))))))) ?_
  -- the chain
  refine Sm.seqW ?_
  conv => whnf
  refine Om.of _ (load_agg Try.underlying48 rfl b510.rd (sl_all rfl)) ?_
  conv => whnf
  refine (of_spec K10.wf h10 oLab).mono ?_
  rintro _ s11 ⟨k11, w, rfl, o11⟩
  rw [c8] at o11 ⊢
  obtain ⟨N, hN⟩ : ∃ N, N = chN (rs (i + 1)) := ⟨_, rfl⟩
  rw [← hN] at o11 isC c8 ⊢
  have hn0 : N.last.length = i + 1 - (i + 1 - 8) := by rw [isC.last]; simp [hlen]
  obtain ⟨kw, w1, w2, ow11⟩ := o11.own (by omega)
  obtain ⟨q1, q2, q3, q4⟩ := isC
  have isC : ChIs N (rs (i + 1)) := ⟨q1, q2, q3, q4⟩
  have hn : N.last.length = i + 1 - (i + 1 - 8) := by rw [q3]; simp [hlen]
  obtain ⟨aw, cw, rfl⟩ := o11.shape
  conv => whnf
  obtain ⟨k12, b12⟩ := new_kp k11.wf (chCells Ch.zero (.slice none 0 0)) 4
  refine Om.of (.pointer (some ⟨s11.next, 0, none⟩), s11.new (chCells Ch.zero (.slice none 0 0)) 4) rfl ?_
  have n12' : (s11.new (chCells Ch.zero (.slice none 0 0)) 4).next = s11.next + 1 := rfl
  generalize s11.new (chCells Ch.zero (.slice none 0 0)) 4 = s12 at k12 b12 n12' ⊢
  conv => whnf
  obtain ⟨s13, e13, k13, b13, _⟩ := store_all (P := Try.prog) (t := 54) (i := _) rfl k12.wf b12 (a := #[.int .i64 N.count, .int .u64 (N.head.toNat : Int), .slice aw N.last.length cw, .int .u64 (N.base.toNat : Int)]) (l := chCells N (.slice aw N.last.length cw)) rfl rfl rfl rfl
  refine Om.of s13 e13 ?_
  conv => whnf
  have k1113 : K0 s11 s13 := k12.touch k13 (fun k hk => by subst hk; exact Nat.le_refl _)
  have k1013 : K0 s10 s13 := k11.then k1113
  have n1011 := k11.next
  have K13 := K10.then k1013
  have h13 := h10.keep0 k1013
  have b513 := k1013.blk _ _ _ _ (fun h => h) b510
  have b713 := k1013.blk _ _ _ _ (fun h => h) b710
  have o13 := o11.keep0 k1113
  have ow13 := ow11.keep0 k1113
  have b1313 := b13
  clear b12 b510 b710 b58 b78 h10
  refine Sm.weak [(0, .slice a l.length c), (3, .pointer (some ⟨b0, 0, none⟩)), (4, .pointer (some ⟨s2.next, 0, none⟩)), (5, .int .u64 ((((rs (i + 1)).foldl linkF 0).toNat : Nat) : Int)), (6, .int .i64 (i : Int)), (7, .pointer (some ⟨s5.next, 0, none⟩)), (8, .pointer (some ⟨s11.next, 0, none⟩)), (19, .slice a l.length c), (20, .int .i64 (l.length : Int)), (21, .int .i64 (i : Int))] (.cons rfl (.cons rfl (.cons rfl (.cons rfl (.cons rfl (.cons rfl (.cons rfl (.cons rfl (.cons rfl (.cons rfl (Sub.nil _))))))))))) ?_
  refine Sm.seqC (fun e L' s' => e = .normal ∧ K0 s13 s' ∧ Sub [(0, .slice a l.length c), (3, .pointer (some ⟨b0, 0, none⟩)), (4, .pointer (some ⟨s2.next, 0, none⟩)), (5, .int .u64 ((((rs (i + 1)).foldl linkF 0).toNat : Nat) : Int)), (6, .int .i64 (i : Int)), (8, .pointer (some ⟨s11.next, 0, none⟩)), (19, .slice a l.length c), (20, .int .i64 (l.length : Int)), (21, .int .i64 (i : Int))] L') ?_ ?_
  · conv => whnf
    refine ⟨[0, 1, 0, 7, 15, 31, 63, 31, 159, 511, 1023, 2047, 4095, 8191, 16383, 32767, 65535, 131071, 262143, 524287, 262143, 1310719, 3407871, 7602175, 16777215, 33554431, 262143, 67371007, 268435455, 536870911], by decide +kernel, by decide +kernel, ?_⟩
    conv => whnf
    have f1 : ((N.head.toNat : Int) != ((((rs (i + 1)).foldl linkF 0).toNat : Nat) : Int)) = false := by rw [q2]; simp
    have f2 : (N.count != IntKind.i64.wrap ((i : Int) + 1)) = false := by rw [q1, hlen, wrap_i64 (by omega) (by omega)]; simp
    have f3 : ((N.last.length : Int) == 0) = false := by rw [beq_eq_false_iff_ne]; omega
    refine Om.of _ (load_cell Try.underlying46 rfl rfl b13.rd rfl) ?_
    conv => whnf
    repeat (refine Br.no (by first | with_reducible assumption | rfl) ?_; conv => whnf)
    refine Om.of _ (load_cell Try.underlying3 rfl rfl b13.rd rfl) ?_
    conv => whnf
    repeat (refine Br.no (by first | with_reducible assumption | rfl) ?_; conv => whnf)
    refine Om.of _ (load_cell Try.underlying52 rfl rfl b13.rd rfl) ?_
    conv => whnf
    repeat (refine Br.no (by first | with_reducible assumption | rfl) ?_; conv => whnf)
    refine Om.of _ (load_cell Try.underlying52 rfl rfl b13.rd rfl) ?_
    conv => whnf
    repeat (refine Br.no (by first | with_reducible assumption | rfl) ?_; conv => whnf)
    refine Om.of _ (load_cell Try.underlying52 rfl rfl b13.rd rfl) ?_
    conv => whnf
    repeat (refine Br.no (by first | with_reducible assumption | rfl) ?_; conv => whnf)
    have ew : IntKind.i64.wrap ((N.last.length : Int) - 1) = ((N.last.length - 1 : Nat) : Int) := by rw [wrap_i64 (by omega) (by omega)]; omega
    rw [ew]
    obtain ⟨κ13, s13', _⟩ := o13.slb
    obtain ⟨al, j1, j2⟩ := index_rc s13' .i64 (i := N.last.length - 1) (by omega)
    refine Om.of _ j1 ?_
    conv => whnf
    repeat (refine Br.no (by first | with_reducible assumption | rfl) ?_; conv => whnf)
    refine Om.of _ j2 ?_
    conv => whnf
    repeat (refine Br.no (by first | with_reducible assumption | rfl) ?_; conv => whnf)
    refine Om.of _ (load_agg Try.underlying65 rfl b713.rd (sl_all rfl)) ?_
    conv => whnf
    repeat (refine Br.no (by first | with_reducible assumption | rfl) ?_; conv => whnf)
    refine (record_spec K13.wf.reset l[i]).mono ?_
    rintro _ s14 ⟨k14, rfl⟩
    conv => whnf
    refine Dk.nw (k14.low_reset fun _ h => h.elim) ?_
    have k14' := k14.of_reset K13.wf
    conv => whnf
    have el : N.last[N.last.length - 1]'(by omega) = l[i].r := by
      have : N.last[N.last.length - 1]? = some l[i].r := by
        rw [hn, q3, hlen, List.getElem?_drop, show i + 1 - 8 + (i + 1 - (i + 1 - 8) - 1) = i by omega, rss i hc, List.getElem?_append_right (by rw [rsl i hi]; exact Nat.le_refl _), rsl i hi]
        simp
      rw [List.getElem?_eq_getElem (by omega)] at this
      injection this
    rw [el]
    repeat (refine Br.no (by first | with_reducible assumption | rfl) ?_; conv => whnf)
    refine Om.of _ (rc_ne _ _) ?_
    conv => whnf
    repeat (refine Br.no (by first | with_reducible assumption | rfl) ?_; conv => whnf)
    exact ⟨rfl, k14', .cons rfl (.cons rfl (.cons rfl (.cons rfl (.cons rfl (.cons rfl (.cons rfl (.cons rfl (.cons rfl (Sub.nil _)))))))))⟩
  rintro e L' s14 ⟨rfl, k14, hs⟩
  refine Sm.weak _ hs ?_
  clear hs
  have K14 := K13.then k14
  have h14 := h13.keep0 k14
  have b514 := k14.blk _ _ _ _ (fun h => h) b513
  have b14 := k14.blk _ _ _ _ (fun h => h) b13
  have o14 := o13.keep0 k14
  clear b513 b713 h13 o13 o11
  -- its records are written over
  refine Sm.seq ?_
  refine Sm.seqW ?_
  conv => whnf
  refine Om.of _ (load_cell Try.underlying52 rfl rfl b14.rd rfl) ?_
  conv => whnf
  have ow := ow13.keep0 k14
  have lt13 := h14.lt K14.wf
  have n13 := k1113.next
  have n14 := k14.next
  refine Sm.block ?_
  refine Sm.loop ?_
  refine Lp.ofS (α := Nat) (fun k => [(0, .slice a l.length c), (3, .pointer (some ⟨b0, 0, none⟩)), (4, .pointer (some ⟨s2.next, 0, none⟩)), (5, .int .u64 ((((rs (i + 1)).foldl linkF 0).toNat : Nat) : Int)), (6, .int .i64 (i : Int)), (8, .pointer (some ⟨s11.next, 0, none⟩)), (19, .slice a l.length c), (20, .int .i64 (l.length : Int)), (21, .int .i64 (i : Int)), (70, .int .i64 (N.last.length : Int)), (71, .int .i64 (k : Int))])
    (fun k s' => k ≤ N.last.length ∧ Kp (fun j => j = kw) s14 s' ∧ ∃ cs, Own s' kw (.slice aw N.last.length cw) 4 N.last.length cs) (fun k => N.last.length - k) ?_ 0
    (.cons rfl (.cons rfl (.cons rfl (.cons rfl (.cons rfl (.cons rfl (.cons rfl (.cons rfl (.cons rfl (.cons rfl (.cons rfl (Sub.nil _)))))))))))) ⟨by omega, Kp.refl K14.wf, _, ow⟩
  rintro k s15 ⟨hk, k15, cs, ow15⟩
  have b15 := k15.blk _ _ _ _ (fun h => by omega) b14
  have b515 := k15.blk _ _ _ _ (fun h => by omega) b514
  refine Sm.seqW ?_
  conv => whnf
  refine Sm.seqW ?_
  conv => whnf
  refine Br.mk (fun hck => ?_) (fun hck => ?_)
  · have hck : k < N.last.length := by have := of_decide_eq_true hck; omega
    conv => whnf
    refine Sm.seq (Sm.block ?_)
    refine Sm.seqW ?_
    conv => whnf
    refine Sm.ofW ?_
    conv => whnf
    refine Om.of _ (load_cell Try.underlying52 rfl rfl b15.rd rfl) ?_
    conv => whnf
    obtain ⟨bw, j1, _, j3⟩ := ow15.at R52 k15.wf .i64 (i := k) (j := 0) hck (by decide)
    refine Om.of _ j1 ?_
    conv => whnf
    obtain ⟨s16, e16, k16, ow16⟩ := j3 (t' := 3) (.int .i64 (-7)) rfl rfl rfl rfl
    refine Om.of s16 e16 ?_
    conv => whnf
    refine Sm.ofW ?_
    conv => whnf
    have e6 : IntKind.i64.wrap ((k : Int) + 1) = ((k + 1 : Nat) : Int) := by rw [wrap_i64 (by omega) (by omega)]; omega
    exact ⟨k + 1, by (show N.last.length - (k + 1) < N.last.length - k); omega, .cons rfl (.cons rfl (.cons rfl (.cons rfl (.cons rfl (.cons rfl (.cons rfl (.cons rfl (.cons rfl (.cons rfl (.cons (congrArg (fun x => some (Value.int .i64 x)) e6) (Sub.nil _))))))))))), by omega, k15.then k16, _, ow16⟩
  have hck := of_decide_eq_false hck
  conv => whnf
  have K15 : K0 s s15 := K14.touch k15 (fun j hj => by omega)
  have h15 := h14.keep k15 (fun hh => by omega) (fun j hj hh => by have := (h8.lt K8.wf).2 j hj; omega)
  clear h14 b14 b514 ow15 ow
  refine Sm.weak [(0, .slice a l.length c), (3, .pointer (some ⟨b0, 0, none⟩)), (4, .pointer (some ⟨s2.next, 0, none⟩)), (5, .int .u64 ((((rs (i + 1)).foldl linkF 0).toNat : Nat) : Int)), (6, .int .i64 (i : Int)), (19, .slice a l.length c), (20, .int .i64 (l.length : Int)), (21, .int .i64 (i : Int))] (.cons rfl (.cons rfl (.cons rfl (.cons rfl (.cons rfl (.cons rfl (.cons rfl (.cons rfl (Sub.nil _))))))))) ?_
  refine Sm.seqW ?_
  conv => whnf
  refine Om.of _ (load_agg Try.underlying48 rfl b515.rd (sl_all rfl)) ?_
  conv => whnf
  refine (of_spec K15.wf h15 oLab).mono ?_
  rintro _ s16 ⟨k16, w', rfl, o16⟩
  rw [c8] at o16 ⊢
  obtain ⟨aw', cw', rfl⟩ := o16.shape
  conv => whnf
  obtain ⟨k17, b17⟩ := new_kp k16.wf (chCells Ch.zero (.slice none 0 0)) 4
  refine Om.of (.pointer (some ⟨s16.next, 0, none⟩), s16.new (chCells Ch.zero (.slice none 0 0)) 4) rfl ?_
  generalize s16.new (chCells Ch.zero (.slice none 0 0)) 4 = s17 at k17 b17 ⊢
  conv => whnf
  obtain ⟨s18, e18, k18, b18, _⟩ := store_all (P := Try.prog) (t := 54) (i := _) rfl k17.wf b17 (a := #[.int .i64 N.count, .int .u64 (N.head.toNat : Int), .slice aw' N.last.length cw', .int .u64 (N.base.toNat : Int)]) (l := chCells N (.slice aw' N.last.length cw')) rfl rfl rfl rfl
  refine Om.of s18 e18 ?_
  conv => whnf
  have k1618 : K0 s16 s18 := k17.touch k18 (fun k hk => by subst hk; exact Nat.le_refl _)
  have k1518 := k16.then k1618
  have K18 := K15.then k1518
  have h18 := h15.keep0 k1518
  have b518 := k1518.blk _ _ _ _ (fun h => h) b515
  have o18 := o16.keep0 k1618
  obtain ⟨κ18, q18, _⟩ := o18.slb
  clear h15 b515 b17 o16
  have hNok : ∀ r ∈ N.last, r.ok := by
    rw [isC.last]
    intro r hr
    obtain ⟨x, hx, rfl⟩ := List.mem_map.1 (List.mem_of_mem_drop hr)
    exact (ok x (List.mem_of_mem_take hx)).r
  refine Sm.weak [(0, .slice a l.length c), (3, .pointer (some ⟨b0, 0, none⟩)), (4, .pointer (some ⟨s2.next, 0, none⟩)), (5, .int .u64 ((((rs (i + 1)).foldl linkF 0).toNat : Nat) : Int)), (6, .int .i64 (i : Int)), (10, .pointer (some ⟨s16.next, 0, none⟩)), (19, .slice a l.length c), (20, .int .i64 (l.length : Int)), (21, .int .i64 (i : Int))] (.cons rfl (.cons rfl (.cons rfl (.cons rfl (.cons rfl (.cons rfl (.cons rfl (.cons rfl (.cons rfl (Sub.nil _)))))))))) ?_
  refine Sm.ofW ?_
  conv => whnf
  refine Om.of _ (load_agg Try.underlying54 rfl b18.rd (sl_all rfl)) ?_
  conv => whnf
  refine (right_spec (c := N) K18.wf q18 hNok (by omega)).mono ?_
  rintro _ s19 ⟨k19, rfl⟩
  have hright : rightF N = true := chIs_right isC (by omega)
  rw [hright]
  conv => whnf
  have K19 := K18.then k19
  have h19 := h18.keep0 k19
  have b519 := k19.blk _ _ _ _ (fun h => h) b518
  have b19 := k19.blk _ _ _ _ (fun h => h) b18
  have q19 := q18.keep0 k19
  have hv19 := hv.keep0 K19
  repeat (refine Br.no rfl ?_; conv => whnf)
  refine Om.of _ (load_cell Try.underlying52 rfl rfl b19.rd rfl) ?_
  conv => whnf
  repeat (refine Br.no rfl ?_; conv => whnf)
  obtain ⟨bd, od, Cd, d1, d2, d3⟩ := index_fld R52 q19 .i64 (i := 0) (by omega)
  refine Om.of _ d1 ?_
  conv => whnf
  repeat (refine Br.no rfl ?_; conv => whnf)
  have h0 : 0 < N.last.length := by omega
  have d4 : Cd[od + 0]? = some (.int .i64 N.last[0].who) := by
    rw [d3 0 (by decide), rc_cell h0 (by decide)]; rfl
  refine Om.of _ (load_cell Try.underlying3 rfl rfl d2 d4) ?_
  conv => whnf
  repeat (refine Br.no rfl ?_; conv => whnf)
  have i8 : i + 1 - 8 < l.length := by omega
  have e0 : N.last[0] = l[i + 1 - 8].r := by
    have : N.last[0]? = some l[i + 1 - 8].r := by
      rw [q3, hlen, List.getElem?_drop]
      show ((l.take (i + 1)).map Rw.r)[i + 1 - 8 + 0]? = _
      rw [List.getElem?_map, List.getElem?_take, if_pos (by omega)]
      rw [show i + 1 - 8 + 0 = i + 1 - 8 by omega, List.getElem?_eq_getElem i8]
      rfl
    rw [List.getElem?_eq_getElem h0] at this
    injection this
  refine Br.mk (fun hw => ?_) (fun hw => ?_)
  · have hw7 : l[i + 1 - 8].r.who = -7 := by rw [← e0]; exact of_decide_eq_true hw
    conv => whnf
    repeat (first | (refine Br.yes hw ?_; conv => whnf) | (refine Br.no rfl ?_; conv => whnf))
    obtain ⟨be, oe, Ce, p1, p2, p3⟩ := index_fld R58 hv19 .i64 i8
    have w1' : IntKind.i64.wrap (IntKind.i64.wrap ((i : Int) + 1) - 8) = (i : Int) + 1 - 8 := by rw [wrap_i64 (n := (i : Int) + 1) (by omega) (by omega), wrap_i64 (by omega) (by omega)]
    have hM : (if IntKind.i64.wrap (IntKind.i64.wrap ((i : Int) + 1) - 8) > 0 then IntKind.i64.wrap (IntKind.i64.wrap ((i : Int) + 1) - 8) else 0) = ((i + 1 - 8 : Nat) : Int) := by
      rw [w1']; split <;> omega
    refine Om.of _ ((congrArg (fun x => evIndexAddr Try.prog 58 (.slice a l.length c) (.int .i64 x)) hM).trans p1) ?_
    conv => whnf
    repeat (first | (refine Br.yes hw ?_; conv => whnf) | (refine Br.no rfl ?_; conv => whnf))
    have p4 : Ce[oe + 1]? = some (.int .i64 l[i + 1 - 8].r.who) := by
      rw [p3 1 (by decide), rw_cell i8 (by decide)]; rfl
    refine Om.of _ (load_cell Try.underlying3 rfl rfl p2 p4) ?_
    conv => whnf
    have hw8 : (l[i + 1 - 8].r.who != -7) = false := by rw [hw7]; rfl
    repeat (first | (refine Br.yes hw ?_; conv => whnf) | (refine Br.no rfl ?_; conv => whnf) | (refine Br.no hw8 ?_; conv => whnf))
    refine Sm.ofW ?_
    conv => whnf
    have e6 : IntKind.i64.wrap ((i : Int) + 1) = ((i + 1 : Nat) : Int) := by rw [wrap_i64 (by omega) (by omega)]; omega
    exact ⟨i + 1, by (show l.length - (i + 1) < l.length - i); omega, .cons rfl (.cons rfl (.cons rfl (.cons rfl (.cons rfl (.cons rfl (.cons (congrArg (fun x => some (Value.int .i64 x)) e6) (Sub.nil _))))))), by omega, K19, by have := K19.next; have := k19.next; have := k1518.next; have := k15.next; omega, b519, E2, h19, (fun j hj => ⟨(fE2 j hj).1, (fE2 j hj).2.1⟩), c8.trans hN, z8⟩
  · conv => whnf
    repeat (first | (refine Br.no hw ?_; conv => whnf) | (refine Br.no rfl ?_; conv => whnf))
    refine Sm.ofW ?_
    conv => whnf
    have e6 : IntKind.i64.wrap ((i : Int) + 1) = ((i + 1 : Nat) : Int) := by rw [wrap_i64 (by omega) (by omega)]; omega
    exact ⟨i + 1, by (show l.length - (i + 1) < l.length - i); omega, .cons rfl (.cons rfl (.cons rfl (.cons rfl (.cons rfl (.cons rfl (.cons (congrArg (fun x => some (Value.int .i64 x)) e6) (Sub.nil _))))))), by omega, K19, by have := K19.next; have := k19.next; have := k1518.next; have := k15.next; omega, b519, E2, h19, (fun j hj => ⟨(fE2 j hj).1, (fE2 j hj).2.1⟩), c8.trans hN, z8⟩
end Go.Ev
