/- Rolls: bytes put together. No condition. -/
import Derived.Test.YtfbdnmcncgbifaaR1
noncomputable section
namespace Go.Ev
open Go.Proofs
set_option linter.unusedVariables false
set_option maxRecDepth 100000

theorem R94 : SlT Try.prog 94 32 1 24 (.slice none 0 0) := ⟨Try.underlying94, ⟨_, rfl, rfl, rfl, rfl⟩, rfl, rfl, by decide, by decide⟩
/-- A piece that is to be put to others. -/
structure Pt where
  κ : Option Nat
  v : Value
  b : List UInt8
def ptsA (L : List Pt) : At where
  foot := fun j => ∃ x ∈ L, x.κ = some j
  ok := fun s => ∀ x ∈ L, Sb s x.κ x.v x.b
  keep := fun _ _ _ hk hX h x hx => (h x hx).keep hk fun k hk => hX k ⟨x, hx, hk⟩
  lt := fun s wf h j hj => by
    obtain ⟨x, hx, hj⟩ := hj
    exact (h x hx).lt wf j hj
  lo := fun s m h x hx => (h x hx).lo m
theorem slice_to_val {s : St} {b off n c j : Nat} (he : blkEsz s b = some 1) (k : IntKind) (hj : j ≤ c) :
    evSliceMem Try.prog 32 (.slice (some ⟨b, off, none⟩) n c) none (some (.int k (j : Int))) none s = some (.slice (some ⟨b, off, none⟩) j c) := by
  obtain ⟨i, hi1, hi2, hi3, hi4⟩ := B26.hi
  have hb : bnds n c none (some (.int k (j : Int))) none = some (0, j, c) := by
    unfold bnds
    simp only [bnd_nat hj]
  unfold evSliceMem; rw [B26.hu]; simp only [hi1, he, hi2, Nat.beq_refl, hb, Nat.zero_mul, Nat.add_zero, Nat.sub_zero]
theorem clip_to_nil (s : St) : evSliceMem Try.prog 32 (.slice none 0 0) none (some (.int .i64 0)) none s = some (.slice none 0 0) := by
  obtain ⟨i, hi1, hi2, hi3, hi4⟩ := B26.hi
  have hb : bnds 0 0 none (some (.int .i64 0)) none = some (0, 0, 0) := rfl
  unfold evSliceMem; rw [B26.hu]; simp only [hb, hi1]
section
variable {X : Nat → Prop} {s0 s : St} {R F G : List At}
theorem grow_spec (hp : Hp X s0 R F s) {m : Nat} (h0 : 0 < m) (hm : m ≤ 1000000000) {K : Value → St → Prop} (hK : ∀ b s', Hp X s0 R (blkA b b (byteVals (List.replicate m 0)) 1 :: F) s' → K0 s s' → K (.slice (some ⟨b, 0, none⟩) 0 m) s') :
    Cw Try.prog 60 [.slice none 0 0, .int .i64 (m : Int)] s K := by
  refine Cw.enterS Try.func60 rfl rfl ?_
  refine Sm.seqW ?_
  conv => whnf
  refine Sm.seq ?_
  refine Sm.seqW ?_
  conv => whnf
  refine Sm.ofW ?_
  conv => whnf
  refine Br.no (by rw [decide_eq_false]; omega) ?_
  conv => whnf
  refine Sm.seq ?_
  refine Sm.seqW ?_
  conv => whnf
  refine Om.of (.int .i64 0) rfl ?_
  conv => whnf
  have e1 : IntKind.i64.wrap ((m : Int) - IntKind.i64.wrap (0 - 0)) = (m : Int) := by
    rw [show IntKind.i64.wrap (0 - 0) = 0 from rfl, wi64 (by omega) (by omega)]; omega
  refine Sm.weak [(0, .slice none 0 0), (1, .int .i64 (m : Int))] (subK_ok ⟨rfl, congrArg (fun x => some (Value.int .i64 x)) e1, trivial⟩) ?_
  refine Sm.seqW ?_
  conv => whnf
  refine Sm.ofW ?_
  conv => whnf
  refine Br.yes (by rw [decide_eq_true]; omega) ?_
  conv => whnf
  refine Om.of (.int .i64 0) rfl ?_
  conv => whnf
  refine Om.of (.slice none 0 0) (clip_to_nil s) ?_
  conv => whnf
  refine hp.appZ (m := m) B26 rfl Try.underlying3 h0 (by omega) ?_
  clear hp
  intro b s1 hp k1
  rw [← byteVals_replicate] at hp
  conv => whnf
  refine Om.of _ (slice_to_val (j := 0) (Blk.esz (hp.blk .here)) .i64 (by omega)) ?_
  conv => whnf
  refine Sm.ofW ?_
  conv => whnf
  exact ⟨hK _ _ hp k1⟩
theorem flat_take (L : List Pt) {i : Nat} (hi : i < L.length) : (L.take (i + 1)).flatMap Pt.b = (L.take i).flatMap Pt.b ++ L[i].b := by
  rw [List.take_succ_eq_append_getElem hi, List.flatMap_append]; simp
theorem flat_len (L : List Pt) {i : Nat} (hi : i ≤ L.length) : ((L.take i).flatMap Pt.b).length ≤ (L.flatMap Pt.b).length := by
  conv => rhs; rw [← List.take_append_drop i L, List.flatMap_append, List.length_append]
  omega
theorem putAt_grow (d l : List UInt8) (n : Nat) (h : d.length + l.length ≤ n) : putAt (byteVals (d ++ List.replicate (n - d.length) 0)) (0 + d.length * 1) (byteVals l) = byteVals ((d ++ l) ++ List.replicate (n - (d ++ l).length) 0) := by
  rw [Nat.zero_add, Nat.mul_one]
  unfold putAt
  rw [byteVals_length, byteVals_append, List.take_left' (byteVals_length d), List.append_assoc, ← List.drop_drop, List.drop_left' (byteVals_length d), byteVals_append, byteVals_append, List.append_assoc]
  congr 2
  rw [byteVals_replicate, byteVals_replicate, List.drop_replicate]
  congr 1
  simp; omega
theorem concat_spec {s : St} (wf : WF s) {κ0 : Option Nat} {xs : Value} (L : List Pt) (hx : Sl s κ0 xs 1 L.length (L.map Pt.v)) (hs : ∀ x ∈ L, Sb s x.κ x.v x.b) (h0 : 0 < (L.flatMap Pt.b).length) (hm : (L.flatMap Pt.b).length ≤ 1000000000) (hL : L.length ≤ 1000) :
    Cw Try.prog 50 [xs] s fun r s' => K0 s s' ∧ Ob s.next s' r (L.flatMap Pt.b) := by
  have hp : Hp (fun _ => False) s [slA κ0 xs 1 L.length (L.map Pt.v), ptsA L] [] s := Hp.start _ wf _ (by simp; exact ⟨hx, hs⟩)
  obtain ⟨a, c, rfl⟩ := hx.shape
  generalize hN : (L.flatMap Pt.b).length = N at h0 hm
  refine Cw.enterS Try.func50 rfl rfl ?_
  refine Sm.seqW ?_
  conv => whnf
  refine Sm.seqW ?_
  conv => whnf
  refine Sm.seq ?_
  refine Sm.seqW ?_
  conv => whnf
  refine Sm.block ?_
  refine Sm.loop ?_
  refine Lp.ofS (α := Nat) (fun i => [(0, .slice a L.length c), (3, .int .i64 (((L.take i).flatMap Pt.b).length : Int)), (9, .slice a L.length c), (10, .int .i64 (L.length : Int)), (11, .int .i64 (i : Int))])
    (fun i s' => s' = s ∧ i ≤ L.length) (fun i => L.length - i) ?_ 0 (subK_ok (by refine ⟨rfl, rfl, rfl, rfl, rfl, trivial⟩)) ⟨rfl, by omega⟩
  rintro i s1 ⟨rfl, hi⟩
  refine Sm.seqW ?_
  conv => whnf
  refine Sm.seqW ?_
  conv => whnf
  refine Br.mk (fun hc => ?_) (fun hc => ?_)
  · have hc : i < L.length := by have := of_decide_eq_true hc; omega
    conv => whnf
    refine Sm.seq (Sm.block ?_)
    refine Sm.seqW ?_
    conv => whnf
    obtain ⟨p, x, e1, e2, e3, _, rfl⟩ := index_sl R94 Try.underlying32 rfl hx .i64 hc
    obtain rfl : x = L[i].v := by simp [hc] at e2; exact e2.symm
    refine Om.of _ e1 ?_
    conv => whnf
    refine Om.of _ e3 ?_
    conv => whnf
    obtain ⟨ai, ci, hsh⟩ := (hs L[i] (List.getElem_mem hc)).shape
    rw [hsh]
    refine Sm.seqW ?_
    conv => whnf
    refine Sm.seqW ?_
    conv => whnf
    have hle := flat_len L (i := i + 1) hc
    rw [flat_take L hc, hN, List.length_append] at hle
    have e5 : IntKind.i64.wrap ((((L.take i).flatMap Pt.b).length : Int) + (L[i].b.length : Int)) = (((L.take (i + 1)).flatMap Pt.b).length : Int) := by
      rw [flat_take L hc, List.length_append, wi64 (by omega) (by omega)]; push_cast; rfl
    rw [e5]
    refine Sm.ofW ?_
    conv => whnf
    refine Br.no (by rw [decide_eq_false]; omega) ?_
    conv => whnf
    refine Sm.ofW ?_
    conv => whnf
    have e6 : IntKind.i64.wrap ((i : Int) + 1) = ((i + 1 : Nat) : Int) := by rw [wi64 (by omega) (by omega)]; omega
    exact ⟨i + 1, by (show L.length - (i + 1) < L.length - i); omega, subK_ok (by refine ⟨rfl, rfl, rfl, rfl, congrArg (fun x => some (Value.int .i64 x)) e6, trivial⟩), rfl, hc⟩
  · have hc : i = L.length := by have := of_decide_eq_false hc; omega
    subst hc
    rw [List.take_of_length_le (Nat.le_refl _), hN]
    conv => whnf
    refine Sm.live [0, 3] ?_
    conv => whnf
    refine Sm.seqW ?_
    conv => whnf
    refine grow_spec hp h0 hm ?_
    clear hp
    intro b s hp _
    conv => whnf
    refine Sm.live [0, 6] ?_
    conv => whnf
    refine Sm.seq ?_
    refine Sm.seqW ?_
    conv => whnf
    refine Sm.block ?_
    refine Sm.loop ?_
    refine Lp.ofS (α := Nat) (fun i => [(6, .slice (some ⟨b, 0, none⟩) ((L.take i).flatMap Pt.b).length N), (25, .slice a L.length c), (26, .int .i64 (L.length : Int)), (27, .int .i64 (i : Int))])
      (fun i s' => i ≤ L.length ∧ Hp (fun _ => False) s1 [slA κ0 (.slice a L.length c) 1 L.length (L.map Pt.v), ptsA L] [blkA b b (byteVals ((L.take i).flatMap Pt.b ++ List.replicate (N - ((L.take i).flatMap Pt.b).length) 0)) 1] s') (fun i => L.length - i) ?_ 0
      (subK_ok (by refine ⟨rfl, rfl, rfl, rfl, trivial⟩)) ⟨by omega, hp⟩
    clear hp
    rintro i s ⟨hi, hp⟩
    refine Sm.seqW ?_
    conv => whnf
    refine Sm.seqW ?_
    conv => whnf
    refine Br.mk (fun hc => ?_) (fun hc => ?_)
    · have hc : i < L.length := by have := of_decide_eq_true hc; omega
      conv => whnf
      refine Sm.seq (Sm.block ?_)
      refine Sm.seqW ?_
      conv => whnf
      obtain ⟨p, x, e1, e2, e3, _, rfl⟩ := index_sl R94 Try.underlying32 rfl (hp.slR .here) .i64 hc
      obtain rfl : x = L[i].v := by simp [hc] at e2; exact e2.symm
      refine Om.of _ e1 ?_
      conv => whnf
      refine Om.of _ e3 ?_
      conv => whnf
      refine Sm.ofW ?_
      conv => whnf
      have hle := flat_len L (i := i + 1) hc
      rw [flat_take L hc, hN, List.length_append] at hle
      have hsi : Sb s L[i].κ L[i].v L[i].b := (hp.okR (ptsA L) (by simp)) L[i] (List.getElem_mem hc)
      refine hp.appIn B26 Try.underlying32 rfl .here (elems_sl hsi) (by simp [byteVals]) (byteVals_one _) hle (by rw [byteVals_length, List.length_append, List.length_replicate]; omega) ?_
      clear hp e1 e3
      intro s hp
      conv => whnf
      rw [putAt_grow _ _ _ hle, ← flat_take L hc] at hp
      refine Sm.ofW ?_
      conv => whnf
      have e6 : IntKind.i64.wrap ((i : Int) + 1) = ((i + 1 : Nat) : Int) := by rw [wi64 (by omega) (by omega)]; omega
      refine ⟨i + 1, by (show L.length - (i + 1) < L.length - i); omega, subK_ok (by refine ⟨?_, rfl, rfl, congrArg (fun x => some (Value.int .i64 x)) e6, trivial⟩; rw [flat_take L hc, List.length_append]; rfl), hc, hp⟩
    · have hc : i = L.length := by have := of_decide_eq_false hc; omega
      subst hc
      rw [List.take_of_length_le (Nat.le_refl _), hN, Nat.sub_self, List.replicate_zero, List.append_nil] at hp
      rw [List.take_of_length_le (Nat.le_refl _), hN]
      conv => whnf
      refine Sm.ofW ?_
      conv => whnf
      have hb := hp.blk (k := b) (b := b) (e := 1) (C := byteVals (L.flatMap Pt.b)) .here
      refine ⟨hp.fr, ⟨.inr ⟨b, ?_, ?_, b, by rw [hN]; rfl, hb, by rw [byteVals_length, Nat.mul_one]⟩⟩⟩
      · rcases hp.own _ List.mem_cons_self b rfl with g | g
        · exact g.elim
        · exact g
      · exact (hb.lt hp.wf).2
end
end Go.Ev
