/- What PackTells says. No condition. -/
import Derived.Test.YtbhccillpdlamaaK8
noncomputable section
namespace Go.Ev
open Go.Proofs
set_option linter.unusedVariables false
set_option maxRecDepth 100000

theorem wrap_inR (n : Int) : Pk.inR (IntKind.i64.wrap n) := by rw [wrap_i64i]; unfold Pk.inR; split <;> omega
theorem Sl.sa {s s' : St} {κ : Option Nat} {v : Value} {e n : Nat} {cs : List Value} (h : Sl s κ v e n cs) (h' : Sl s' κ v e n cs) : Sa false (blkOf v) s s' := by
  have ez : ∀ {t : St}, Sl t κ v e n cs → ∀ b, blkOf v = some b → blkEsz t b = some e := by
    intro t ht b hb
    rcases ht.ex with ⟨rfl, _⟩ | ⟨b0, off, c, C, rfl, _, _, _, ⟨k, _, g⟩ | ⟨_, g⟩⟩
    · cases hb
    · injection hb with hb; subst hb; exact g.esz
    · injection hb with hb; subst hb; exact g.esz
  refine ⟨?_⟩
  cases hb : blkOf v with
  | none => trivial
  | some b => show blkEsz s' b = blkEsz s b; rw [ez h b hb, ez h' b hb]
def Pk.fI (l : List UInt8) : Int × List UInt8 × Int := match Pk.readI l with
  | none => (0, [], 2)
  | some (n, r) => (n, r, 0)
def Pk.fT (l : List UInt8) : List UInt8 × List UInt8 × Int := match Pk.readT l with
  | none => ([], [], 2)
  | some (a, r) => (a, r, 0)
theorem readInt_u {s : St} (wf : WF s) {κ : Option Nat} {v : Value} {l : List UInt8} (h : Sb s κ v l) (hl : l.length ≤ 150000000000000) :
    Cw Try.prog 20 [v] s fun r s' => K0 s s' ∧ ∃ w κ, r = .tuple #[.int .i64 (Pk.fI l).1, w, .int .i64 (Pk.fI l).2.2] ∧ Sb s' κ w (Pk.fI l).2.1 := by
  refine (readInt_spec wf h hl).mono ?_
  rintro r s1 ⟨k1, ⟨hr, rfl⟩ | ⟨n, rest, w, hr, rfl, ow⟩⟩
  · exact ⟨k1, .slice none 0 0, none, by simp [Pk.fI, hr], by simp only [Pk.fI, hr]; exact Sl.nil _ _⟩
  · obtain ⟨κ, sw, _⟩ := ow.sl
    exact ⟨k1, w, κ, by simp [Pk.fI, hr], by simp only [Pk.fI, hr]; exact sw⟩
theorem refReadInt_u {s : St} (wf : WF s) {κ : Option Nat} {v : Value} {l : List UInt8} (h : Sb s κ v l) (hl : l.length ≤ 150000000000000) :
    Cw Try.prog 27 [v] s fun r s' => K0 s s' ∧ ∃ w κ, r = .tuple #[.int .i64 (Pk.fI l).1, w, .int .i64 (Pk.fI l).2.2] ∧ Sb s' κ w (Pk.fI l).2.1 := by
  refine (refReadInt_spec wf h hl).mono ?_
  rintro r s1 ⟨k1, ⟨hr, rfl⟩ | ⟨n, rest, w, hr, rfl, ow⟩⟩
  · exact ⟨k1, .slice none 0 0, none, by simp [Pk.fI, hr], by simp only [Pk.fI, hr]; exact Sl.nil _ _⟩
  · obtain ⟨κ, sw, _⟩ := ow.sl
    exact ⟨k1, w, κ, by simp [Pk.fI, hr], by simp only [Pk.fI, hr]; exact sw⟩
theorem readText_u {s : St} (wf : WF s) {κ : Option Nat} {v : Value} {l : List UInt8} (h : Sb s κ v l) (hl : l.length ≤ 150000000000000) :
    Cw Try.prog 23 [v] s fun r s' => K0 s s' ∧ ∃ w κ, r = .tuple #[.string ⟨(Pk.fT l).1.toArray⟩, w, .int .i64 (Pk.fT l).2.2] ∧ Sb s' κ w (Pk.fT l).2.1 := by
  refine (readText_spec wf h hl).mono ?_
  rintro r s1 ⟨k1, ⟨hr, rfl⟩ | ⟨n, rest, w, hr, rfl, ow⟩⟩
  · exact ⟨k1, .slice none 0 0, none, by simp [Pk.fT, hr], by simp only [Pk.fT, hr]; exact Sl.nil _ _⟩
  · obtain ⟨κ, sw, _⟩ := ow.sl
    exact ⟨k1, w, κ, by simp [Pk.fT, hr], by simp only [Pk.fT, hr]; exact sw⟩
theorem refReadText_u {s : St} (wf : WF s) {κ : Option Nat} {v : Value} {l : List UInt8} (h : Sb s κ v l) (hl : l.length ≤ 150000000000000) :
    Cw Try.prog 28 [v] s fun r s' => K0 s s' ∧ ∃ w κ, r = .tuple #[.string ⟨(Pk.fT l).1.toArray⟩, w, .int .i64 (Pk.fT l).2.2] ∧ Sb s' κ w (Pk.fT l).2.1 := by
  refine (refReadText_spec wf h hl).mono ?_
  rintro r s1 ⟨k1, ⟨hr, rfl⟩ | ⟨n, rest, w, κ, hr, rfl, sw⟩⟩
  · exact ⟨k1, .slice none 0 0, none, by simp [Pk.fT, hr], by simp only [Pk.fT, hr]; exact Sl.nil _ _⟩
  · exact ⟨k1, w, κ, by simp [Pk.fT, hr], by simp only [Pk.fT, hr]; exact sw⟩
theorem sb_str {s : St} {κ : Option Nat} {v : Value} {l : List UInt8} (h : Sb s κ v l) : evConvMem Try.prog 26 9 v s = some (.string ⟨l.toArray⟩, s) :=
  string_sl Try.underlying26 Try.underlying9 Try.underlying5 h

theorem tells_walk {s : St} (wf : WF s) {n small : Int} (hn : Pk.inR n) (hsm : Pk.inR small) {κb : Option Nat} {vb : Value} {lb : List UInt8} (hb : Sb s κb vb lb) (hlb : lb.length ≤ 140737488351232) {str : ByteArray} (hstr : (bs str).length ≤ 140737488351232)
    {cut at_ : Int} (hcut : Pk.inR cut) (hat : Pk.inR at_) {wi : Int} (hwi : 0 ≤ wi ∧ wi < 256) :
    Cw Try.prog 9 [.int .i64 n, .int .i64 small, vb, .string str, .int .i64 cut, .int .i64 at_, .int .u8 wi] s fun r _ => r = .bool true := by
  have hy : Pk.inR (small.tmod 1000) := by
    have h1 := Int.tmod_lt_of_pos small (show (0 : Int) < 1000 by omega)
    have h2 := Int.lt_tmod_of_pos small (show (0 : Int) < 1000 by omega)
    unfold Pk.inR; omega
  have hSin : Pk.inR ((bs str).length : Int) := by unfold Pk.inR; omega
  have hSl := Pk.encI_len hSin
  have hnl := Pk.encI_len hn
  refine Cw.enterS Try.func9 rfl rfl ?_
  refine Sm.seqW ?_
  conv => whnf
  refine Sm.seqW ?_
  conv => whnf
  refine (few_spec wf hb (by omega) 12).mono ?_
  rintro hd s1 ⟨k1, o1⟩
  have lH : (lb.take 12).length ≤ 12 := by simp; omega
  generalize lb.take 12 = H at o1 lH
  obtain ⟨ah, ch, rfl⟩ := o1.shape
  obtain ⟨κh, sh, hκh⟩ := o1.slb
  conv => whnf
  refine Sm.weak [(0, .int .i64 n), (1, .int .i64 small), (2, vb), (3, .string str), (4, .int .i64 cut), (5, .int .i64 at_), (6, .int .u8 wi), (15, .slice ah H.length ch)] (.cons rfl (.cons rfl (.cons rfl (.cons rfl (.cons rfl (.cons rfl (.cons rfl (.cons rfl (Sub.nil _))))))))) ?_
  refine Sm.seqW ?_
  conv => whnf
  refine (int_spec k1.wf sh (by omega) hn).mono ?_
  rintro x s2 ⟨k2, o2⟩
  conv => whnf
  refine Sm.seqW ?_
  conv => whnf
  refine Om.of (.int .i64 (small.tmod 1000)) rfl ?_
  conv => whnf
  refine (int_spec k2.wf (sh.keep0 k2) (by omega) hy).mono ?_
  rintro y s3 ⟨k3, o3⟩
  conv => whnf
  refine Sm.weak [(0, .int .i64 n), (1, .int .i64 small), (2, vb), (3, .string str), (4, .int .i64 cut), (5, .int .i64 at_), (6, .int .u8 wi), (15, .slice ah H.length ch), (16, x), (17, y)] (.cons rfl (.cons rfl (.cons rfl (.cons rfl (.cons rfl (.cons rfl (.cons rfl (.cons rfl (.cons rfl (.cons rfl (Sub.nil _))))))))))) ?_
  refine Sm.seqW ?_
  conv => whnf
  refine (text_spec k3.wf ((sh.keep0 k2).keep0 k3) (by omega) str (by omega)).mono ?_
  rintro z s4 ⟨k4, o4⟩
  conv => whnf
  refine Sm.weak [(0, .int .i64 n), (1, .int .i64 small), (2, vb), (3, .string str), (4, .int .i64 cut), (5, .int .i64 at_), (6, .int .u8 wi), (15, .slice ah H.length ch), (16, x), (17, y), (18, z)] (.cons rfl (.cons rfl (.cons rfl (.cons rfl (.cons rfl (.cons rfl (.cons rfl (.cons rfl (.cons rfl (.cons rfl (.cons rfl (Sub.nil _)))))))))))) ?_
  have K4 := ((k1.then k2).then k3).then k4
  have hx4 := (o2.keep0 k3).keep0 k4
  have hy4 := o3.keep0 k4
  have hh4 := ((sh.keep0 k2).keep0 k3).keep0 k4
  have hb4 := hb.keep0 K4
  have wf4 := k4.wf
  clear sh o2 o3 hb
  -- as the document says
  refine Sm.seqC (fun e L' s' => e = .normal ∧ K0 s4 s' ∧ Sub [(1, .int .i64 small), (2, vb), (3, .string str), (4, .int .i64 cut), (5, .int .i64 at_), (6, .int .u8 wi), (15, .slice ah H.length ch), (16, x), (18, z)] L') ?_ ?_
  · conv => whnf
    refine ⟨[0, 1, 0, 0, 12, 28, 63, 127, 255, 511, 255, 255, 2303, 7423, 15615, 32767, 65535, 131071, 262143, 524287, 262143, 262143, 3407871, 7602175, 16777215, 33554431], by decide +kernel, by decide +kernel, ?_⟩
    conv => whnf
    refine Om.of _ (ob_str hx4.reset) ?_
    conv => whnf
    refine Dk.same wf4 ?_
    conv => whnf
    refine (refInt_spec wf4.reset hh4.reset (by omega) hn).mono ?_
    rintro x5 s5 ⟨k5, o5⟩
    conv => whnf
    refine Dk.nw (k5.low_reset fun _ h => h.elim) ?_
    have k5' := k5.of_reset wf4
    have o5' := o5.relow (s := s4)
    generalize relow s4 s5 = t5 at k5' o5'
    have wf5 := k5'.wf
    conv => whnf
    refine Om.of _ (ob_str o5'.reset) ?_
    conv => whnf
    refine Dk.same wf5 ?_
    conv => whnf
    refine Om.of (.bool false) (congrArg (fun b => some (Value.bool b)) (show (!((H ++ Pk.encI n) == (H ++ Pk.encI n))) = false by simp)) ?_
    conv => whnf
    repeat (refine Br.no rfl ?_; conv => whnf)
    refine Om.of _ (ob_str (hy4.keep0 k5').reset) ?_
    conv => whnf
    refine Dk.same wf5 ?_
    conv => whnf
    repeat (refine Br.no rfl ?_; conv => whnf)
    refine Om.of (.int .i64 (small.tmod 1000)) rfl ?_
    conv => whnf
    repeat (refine Br.no rfl ?_; conv => whnf)
    refine (refInt_spec wf5.reset (hh4.keep0 k5').reset (by omega) hy).mono ?_
    rintro x6 s6 ⟨k6, o6⟩
    conv => whnf
    refine Dk.nw (k6.low_reset fun _ h => h.elim) ?_
    have k6' := k5'.then (k6.of_reset wf5)
    have o6' := o6.relow (s := t5)
    generalize relow t5 s6 = t6 at k6' o6'
    have wf6 := k6'.wf
    conv => whnf
    repeat (refine Br.no rfl ?_; conv => whnf)
    refine Om.of _ (ob_str o6'.reset) ?_
    conv => whnf
    refine Dk.same wf6 ?_
    conv => whnf
    repeat (refine Br.no rfl ?_; conv => whnf)
    refine Om.of (.bool false) (congrArg (fun b => some (Value.bool b)) (show (!((H ++ Pk.encI (small.tmod 1000)) == (H ++ Pk.encI (small.tmod 1000)))) = false by simp)) ?_
    conv => whnf
    repeat (refine Br.no rfl ?_; conv => whnf)
    refine Om.of _ (ob_str (o4.keep0 k6').reset) ?_
    conv => whnf
    refine Dk.same wf6 ?_
    conv => whnf
    repeat (refine Br.no rfl ?_; conv => whnf)
    refine (refText_spec wf6.reset (hh4.keep0 k6').reset (by omega) str (by omega)).mono ?_
    rintro x7 s7 ⟨k7, o7⟩
    conv => whnf
    refine Dk.nw (k7.low_reset fun _ h => h.elim) ?_
    have k7' := k6'.then (k7.of_reset wf6)
    have o7' := o7.relow (s := t6)
    generalize relow t6 s7 = t7 at k7' o7'
    have wf7 := k7'.wf
    conv => whnf
    repeat (refine Br.no rfl ?_; conv => whnf)
    refine Om.of _ (ob_str o7'.reset) ?_
    conv => whnf
    refine Dk.same wf7 ?_
    conv => whnf
    repeat (refine Br.no rfl ?_; conv => whnf)
    refine Om.of (.bool false) (congrArg (fun b => some (Value.bool b)) (show (!((H ++ Pk.encI (bs str).length ++ bs str) == (H ++ Pk.encI (bs str).length ++ bs str))) = false by simp)) ?_
    conv => whnf
    repeat (refine Br.no rfl ?_; conv => whnf)
    exact ⟨rfl, k7', .cons rfl (.cons rfl (.cons rfl (.cons rfl (.cons rfl (.cons rfl (.cons rfl (.cons rfl (.cons rfl (Sub.nil _)))))))))⟩
  rintro e L' s5 ⟨rfl, k5, hs⟩
  refine Sm.weak _ hs ?_
  clear hs
  have hx5 := hx4.keep0 k5
  have hz5 := o4.keep0 k5
  have hb5 := hb4.keep0 k5
  have wf5 := k5.wf
  obtain ⟨κx, sx, hκx⟩ := hx5.slb
  obtain ⟨κz, sz, hκz⟩ := hz5.slb
  -- the four
  refine Sm.seq ?_
  refine Sm.seqC (fun e L' s' => ∃ w1 w2 w3 l3 κ3, e = .normal ∧ K0 s5 s' ∧ Sb s' κx w1 (Pk.encI n) ∧ Sb s' κz w2 (Pk.encI (bs str).length ++ bs str) ∧ Sb s' κ3 w3 l3 ∧ l3.length ≤ 150000000000000 ∧ Sub [(4, .int .i64 cut), (5, .int .i64 at_), (6, .int .u8 wi), (89, .agg #[vb, w1, w2, w3]), (90, .int .i64 0)] L') ?_ ?_
  · conv => whnf
    refine ⟨[0, 0, 0, 4, 14, 0, 0, 64, 224, 0, 512, 0, 2048, 7680, 15872, 0, 65024, 131071, 0], by decide +kernel, by decide +kernel, ?_⟩
    conv => whnf
    obtain ⟨w1, e1, f1⟩ := slice_from sx .i64 (n := H.length) (by simp)
    refine Om.of w1 e1 ?_
    conv => whnf
    obtain ⟨w2, e2, f2⟩ := slice_from sz .i64 (n := H.length) (by simp)
    refine Om.of w2 e2 ?_
    conv => whnf
    have g1 : Sb s5 κx w1 (Pk.encI n) := by
      have : (H ++ Pk.encI n).drop H.length = Pk.encI n := by simp
      rw [this] at f1; exact f1
    have g2 : Sb s5 κz w2 (Pk.encI (bs str).length ++ bs str) := by
      have : (H ++ Pk.encI (bs str).length ++ bs str).drop H.length = Pk.encI (bs str).length ++ bs str := by simp
      rw [this] at f2; exact f2
    refine Om.of (.int .i64 (small.tmod 3)) rfl ?_
    conv => whnf
    have hm := wrap_inR (((bs str).length : Int) + small.tmod 3)
    refine (refInt_spec wf5.reset (l := []) (Sl.nil _ 1) (by simp) hm).mono ?_
    rintro v8 s8 ⟨k8, o8⟩
    conv => whnf
    refine Dk.nw (k8.low_reset fun _ h => h.elim) ?_
    have k8' := k8.of_reset wf5
    have o8' := o8.relow (s := s5)
    generalize relow s5 s8 = t8 at k8' o8'
    have wf8 := k8'.wf
    have hml := Pk.encI_len hm
    rw [List.nil_append] at o8'
    conv => whnf
    obtain ⟨ab, cb, rfl⟩ := hb5.shape
    obtain ⟨a1, c1, rfl⟩ := g1.shape
    obtain ⟨a2, c2, rfl⟩ := g2.shape
    obtain ⟨v9, s9, e9, o9, k9⟩ := append_ownN B26 Try.underlying9 rfl wf8.reset (b := s5.next) k8'.next o8'.reset (elems_str _ str) (by simp [byteVals]) (byteVals_one _) (by simp; omega)
    rw [← byteVals_append] at o9
    obtain ⟨a9, c9, rfl⟩ := (Ob.of o9).shape
    refine Om.of (_, s9) e9 ?_
    conv => whnf
    have k9' := k9.of_reset wf8
    have o9' := (Ob.of o9).relow (s := t8)
    have K9 := k8'.touch k9' (fun _ h => h)
    have sz8 := sz.keep0 k8'
    have sx8 := sx.keep0 k8'
    have sz9 := sz8.keep k9' (fun k hk => by have := hκz k hk; omega)
    have sx9 := sx8.keep k9' (fun k hk => by have := hκx k hk; omega)
    have q1 := (g1.keep0 k8').keep k9' (fun k hk => by have := hκx k hk; omega)
    have q2 := (g2.keep0 k8').keep k9' (fun k hk => by have := hκz k hk; omega)
    obtain ⟨κ3, q3, _⟩ := o9'.slb
    refine Dk.any ?_ ?_
    · conv => whnf
      exact ⟨_, _, _, _, κ3, rfl, K9, q1, q2, q3, by simp; omega, .cons rfl (.cons rfl (.cons rfl (.cons rfl (.cons rfl (Sub.nil _)))))⟩
    · conv => whnf
      refine ⟨Sl.sa sz8 sz9, ?_⟩
      conv => whnf
      refine ⟨Sl.sa sx8 sx9, ?_⟩
      conv => whnf
      exact ⟨_, _, _, _, κ3, rfl, K9, q1, q2, q3, by simp; omega, .cons rfl (.cons rfl (.cons rfl (.cons rfl (.cons rfl (Sub.nil _)))))⟩
  rintro e L' s6 ⟨w1, w2, w3, l3, κ3, rfl, k6, f1, f2, f3, hl3, hs⟩
  refine Sm.weak _ hs ?_
  clear hs
  have hb6 := hb5.keep0 k6
  have wf6 := k6.wf
  have pick4 : ∀ i : Nat, i < 4 → ∃ w lw κ, evIndex Try.prog 41 (.agg #[vb, w1, w2, w3]) (.int .i64 (i : Int)) = some w ∧ Sb s6 κ w lw ∧ lw.length ≤ 150000000000000 := by
    intro i hi
    match i, hi with
    | 0, _ => exact ⟨vb, lb, κb, rfl, hb6, by omega⟩
    | 1, _ => exact ⟨w1, _, κx, rfl, f1, by omega⟩
    | 2, _ => exact ⟨w2, _, κz, rfl, f2, by simp; omega⟩
    | 3, _ => exact ⟨w3, l3, κ3, rfl, f3, hl3⟩
  clear hb4 hb5 hx4 hx5 hz5 hy4 hh4 o4 sx sz f1 f2 f3
  refine Sm.block ?_
  refine Sm.loop ?_
  refine Lp.ofS (α := Nat) (fun i => [(4, .int .i64 cut), (5, .int .i64 at_), (6, .int .u8 wi), (89, .agg #[vb, w1, w2, w3]), (90, .int .i64 (i : Int))])
    (fun i s' => K0 s6 s' ∧ i ≤ 4) (fun i => 4 - i) ?_ 0 (.cons rfl (.cons rfl (.cons rfl (.cons rfl (.cons rfl (Sub.nil _)))))) ⟨Kp.refl wf6, by omega⟩
  rintro i s7 ⟨k7, hi⟩
  have wf7 := k7.wf
  refine Sm.seqW ?_
  conv => whnf
  refine Sm.seqW ?_
  conv => whnf
  refine Br.mk (fun hc => ?_) (fun hc => ?_)
  rotate_left
  · conv => whnf
    refine Sm.ofW ?_
    conv => whnf
    refine (known_spec wf7).mono ?_
    rintro r8 s8 ⟨rfl, k8⟩
    conv => whnf
    exact ⟨rfl⟩
  have hc : i < 4 := by have := of_decide_eq_true hc; omega
  conv => whnf
  refine Sm.seq (Sm.block ?_)
  refine Sm.seqW ?_
  conv => whnf
  obtain ⟨w, lw, κ, ew, hw, hlw⟩ := pick4 i hc
  have hw7 := hw.keep0 k7
  obtain ⟨a, c, rfl⟩ := hw.shape
  refine Om.of _ ew ?_
  conv => whnf
  refine Sm.weak [(4, .int .i64 cut), (5, .int .i64 at_), (6, .int .u8 wi), (20, .slice a lw.length c), (89, .agg #[vb, w1, w2, w3]), (90, .int .i64 (i : Int))] (.cons rfl (.cons rfl (.cons rfl (.cons rfl (.cons rfl (.cons rfl (Sub.nil _))))))) ?_
  refine Sm.seqW ?_
  conv => whnf
  refine (few_spec wf7 hw7 (by omega) lw.length).mono ?_
  rintro v s8 ⟨k8, o8⟩
  rw [List.take_length] at o8
  have K8 := k7.then k8
  have wf8 := k8.wf
  obtain ⟨av, cv, rfl⟩ := o8.shape
  conv => whnf
  refine Sm.weak [(4, .int .i64 cut), (5, .int .i64 at_), (6, .int .u8 wi), (21, .slice av lw.length cv), (89, .agg #[vb, w1, w2, w3]), (90, .int .i64 (i : Int))] (.cons rfl (.cons rfl (.cons rfl (.cons rfl (.cons rfl (.cons rfl (Sub.nil _))))))) ?_
  -- a byte is another one, or not
  refine Sm.seqC (fun e L' s' => ∃ V1 : List UInt8, e = .normal ∧ V1.length = lw.length ∧ K0 s6 s' ∧ Ob s7.next s' (.slice av lw.length cv) V1 ∧ Sub [(4, .int .i64 cut), (5, .int .i64 at_), (6, .int .u8 wi), (21, .slice av lw.length cv), (89, .agg #[vb, w1, w2, w3]), (90, .int .i64 (i : Int))] L') ?_ ?_
  · conv => whnf
    have same : ∀ L', Sub [(4, .int .i64 cut), (5, .int .i64 at_), (6, .int .u8 wi), (21, .slice av lw.length cv), (89, .agg #[vb, w1, w2, w3]), (90, .int .i64 (i : Int))] L' → ∃ V1 : List UInt8, Ex.normal = .normal ∧ V1.length = lw.length ∧ K0 s6 s8 ∧ Ob s7.next s8 (.slice av lw.length cv) V1 ∧ Sub [(4, .int .i64 cut), (5, .int .i64 at_), (6, .int .u8 wi), (21, .slice av lw.length cv), (89, .agg #[vb, w1, w2, w3]), (90, .int .i64 (i : Int))] L' :=
      fun L' h => ⟨lw, rfl, rfl, K8, o8, h⟩
    refine Br.mk (fun q1 => ?_) (fun q1 => ?_)
    · have hpos : 0 < lw.length := by have := of_decide_eq_true q1; omega
      conv => whnf
      repeat (refine Br.yes q1 ?_; conv => whnf)
      refine Om.of (.int .i64 (at_.tmod 3)) rfl ?_
      conv => whnf
      repeat (refine Br.yes q1 ?_; conv => whnf)
      refine Br.mk (fun q2 => ?_) (fun q2 => ?_)
      · conv => whnf
        refine (pick_spec s8 hat (m := (lw.length : Int)) (by omega) (by omega)).mono ?_
        rintro r9 s9 ⟨rfl, rfl⟩
        have j1 := Int.emod_nonneg at_ (show (lw.length : Int) ≠ 0 by omega)
        have j2 := Int.emod_lt_of_pos at_ (show (0 : Int) < (lw.length : Int) by omega)
        obtain ⟨p, hp⟩ : ∃ p : Nat, at_ % (lw.length : Int) = (p : Int) := ⟨(at_ % (lw.length : Int)).toNat, by omega⟩
        have hp2 : p < lw.length := by omega
        rw [hp]
        conv => whnf
        obtain ⟨kv, hk1, hk2, ov⟩ := o8.own (by omega)
        obtain ⟨bv, hbv, fbv, hlen⟩ := ov.ex
        injection hbv with hb1 hb2 hb3
        subst hb1 hb3
        obtain ⟨p0, x0, e1, e2, e3, _, rfl⟩ := index_sl B26 Try.underlying5 rfl ov.sl .i64 hp2
        obtain rfl : x0 = .int .u8 (lw[p].toNat : Int) := by simp [byteVals, hp2] at e2; exact e2.symm
        have eadr : evIndexAddr Try.prog 26 (.slice (some ⟨bv, 0, none⟩) lw.length lw.length) (.int .i64 (p : Int)) = some (.pointer (some ⟨bv, 0 + p * 1, none⟩)) := by
          obtain ⟨j, hi1, hi2, hi3, hi4⟩ := B26.hi
          show (match Try.prog.underlying 26, Value.slice (some ⟨bv, 0, none⟩) lw.length lw.length, Value.int .i64 (.ofNat p) with
            | some (.slice e), .slice (some a) n _, .int _ (.ofNat i) => match Nat.blt i n, Try.prog.info? e with
              | true, some j => some (Value.pointer (some ⟨a.block, a.off + i * j.size, none⟩))
              | _, _ => none
            | some (.array n e), .pointer (some a), .int _ (.ofNat i) => match Nat.blt i n, Try.prog.info? e with
              | true, some j => some (Value.pointer (some ⟨a.block, a.off + i * j.size, none⟩))
              | _, _ => none
            | _, _, _ => none) = _
          rw [B26.hu]
          simp only [blt_of hp2, hi1, hi2]
        rw [eadr] at e1
        injection e1 with e1
        rw [← e1] at e3
        refine Om.of _ eadr ?_
        conv => whnf
        refine Om.of _ e3 ?_
        conv => whnf
        refine Om.of _ eadr ?_
        conv => whnf
        obtain ⟨s10, e10, k10, f10⟩ := store_cell (P := Try.prog) (t := 5) rfl rfl wf8 fbv (off := 0 + p * 1) (v := .int .u8 (IntKind.u8.wrap ((BitVec.ofInt IntKind.u8.bits (lw[p].toNat : Int) ^^^ BitVec.ofInt IntKind.u8.bits wi).toNat : Int))) (by simp [byteVals]; omega) rfl rfl
        refine Om.of s10 e10 ?_
        conv => whnf
        have hz : 0 ≤ IntKind.u8.wrap ((BitVec.ofInt IntKind.u8.bits (lw[p].toNat : Int) ^^^ BitVec.ofInt IntKind.u8.bits wi).toNat : Int) ∧ IntKind.u8.wrap ((BitVec.ofInt IntKind.u8.bits (lw[p].toNat : Int) ^^^ BitVec.ofInt IntKind.u8.bits wi).toNat : Int) < 256 := by rw [wrap_u8i]; omega
        generalize IntKind.u8.wrap ((BitVec.ofInt IntKind.u8.bits (lw[p].toNat : Int) ^^^ BitVec.ofInt IntKind.u8.bits wi).toNat : Int) = z at hz f10
        have hset : (byteVals lw).set (0 + p * 1) (.int .u8 z) = byteVals (lw.set p (UInt8.ofNat z.toNat)) := by
          rw [Nat.zero_add, Nat.mul_one]
          simp only [byteVals, List.map_set]
          congr 2
          rw [toNat_ofNat (by omega)]; omega
        rw [hset] at f10
        refine ⟨lw.set p (UInt8.ofNat z.toNat), rfl, by simp, K8.touch k10 (fun k hk => by subst hk; exact Nat.le_trans k7.next hk1), ⟨.inr ⟨kv, hk1, Nat.lt_of_lt_of_le hk2 k10.next, ⟨bv, by simp, f10, by simp [byteVals]⟩⟩⟩, .cons rfl (.cons rfl (.cons rfl (.cons rfl (.cons rfl (.cons rfl (Sub.nil _))))))⟩
      · conv => whnf
        exact same _ (.cons rfl (.cons rfl (.cons rfl (.cons rfl (.cons rfl (.cons rfl (Sub.nil _)))))))
    · conv => whnf
      repeat (first | (refine Br.no q1 ?_; conv => whnf) | (refine Br.no rfl ?_; conv => whnf))
      exact same _ (.cons rfl (.cons rfl (.cons rfl (.cons rfl (.cons rfl (.cons rfl (Sub.nil _)))))))
  rintro e L' s9 ⟨V1, rfl, hV1, k9, o9, hs⟩
  refine Sm.weak _ hs ?_
  clear hs
  have wf9 := k9.wf
  obtain ⟨κ1, sv1, _⟩ := o9.slb
  -- cut, or not
  refine Sm.seqC (fun e L' s' => ∃ v V2, e = .normal ∧ s' = s9 ∧ V2.length ≤ 150000000000000 ∧ Sb s9 κ1 v V2 ∧ Sub [(4, .int .i64 cut), (5, .int .i64 at_), (6, .int .u8 wi), (21, v), (89, .agg #[vb, w1, w2, w3]), (90, .int .i64 (i : Int))] L') ?_ ?_
  · conv => whnf
    refine Om.of (.int .i64 (cut.tmod 4)) rfl ?_
    conv => whnf
    refine Br.mk (fun q1 => ?_) (fun q1 => ?_)
    · conv => whnf
      have e1 : IntKind.i64.wrap ((lw.length : Int) + 1) = (lw.length : Int) + 1 := wrap_i64 (by omega) (by omega)
      rw [e1]
      refine (pick_spec s9 hcut (m := (lw.length : Int) + 1) (by omega) (by omega)).mono ?_
      rintro r10 s10 ⟨rfl, rfl⟩
      have j1 := Int.emod_nonneg cut (show (lw.length : Int) + 1 ≠ 0 by omega)
      have j2 := Int.emod_lt_of_pos cut (show (0 : Int) < (lw.length : Int) + 1 by omega)
      obtain ⟨p, hp⟩ : ∃ p : Nat, cut % ((lw.length : Int) + 1) = (p : Int) := ⟨(cut % ((lw.length : Int) + 1)).toNat, by omega⟩
      rw [hp]
      conv => whnf
      obtain ⟨v2, e2, h2⟩ := slice_to sv1 .i64 (n := p) (by omega)
      refine Om.of v2 e2 ?_
      conv => whnf
      exact ⟨v2, _, rfl, rfl, by simp; omega, h2, .cons rfl (.cons rfl (.cons rfl (.cons rfl (.cons rfl (.cons rfl (Sub.nil _))))))⟩
    · conv => whnf
      exact ⟨_, V1, rfl, rfl, by omega, sv1, .cons rfl (.cons rfl (.cons rfl (.cons rfl (.cons rfl (.cons rfl (Sub.nil _))))))⟩
  rintro e L' s10 ⟨v2, V2, rfl, rfl, hV2, sv2, hs⟩
  refine Sm.weak _ hs ?_
  clear hs sv1
  -- read by both
  refine Sm.seqW ?_
  conv => whnf
  refine (readInt_u wf9 sv2 hV2).mono ?_
  rintro r11 s11 ⟨k11, u1, κ11, rfl, g11⟩
  conv => whnf
  refine Sm.weak [(4, .int .i64 cut), (5, .int .i64 at_), (6, .int .u8 wi), (21, v2), (22, .int .i64 (Pk.fI V2).1), (23, u1), (24, .int .i64 (Pk.fI V2).2.2), (89, .agg #[vb, w1, w2, w3]), (90, .int .i64 (i : Int))] (.cons rfl (.cons rfl (.cons rfl (.cons rfl (.cons rfl (.cons rfl (.cons rfl (.cons rfl (.cons rfl (Sub.nil _)))))))))) ?_
  refine Sm.seqW ?_
  conv => whnf
  refine (refReadInt_u k11.wf (sv2.keep0 k11) hV2).mono ?_
  rintro r12 s12 ⟨k12, u2, κ12, rfl, g12⟩
  have n1 : ((Pk.fI V2).1 != (Pk.fI V2).1) = false := by simp
  have n2 : (!((Pk.fI V2).2.1 == (Pk.fI V2).2.1)) = false := by simp
  have n3 : ((Pk.fI V2).2.2 != (Pk.fI V2).2.2) = false := by simp
  conv => whnf
  refine Sm.weak [(4, .int .i64 cut), (5, .int .i64 at_), (6, .int .u8 wi), (21, v2), (22, .int .i64 (Pk.fI V2).1), (23, u1), (24, .int .i64 (Pk.fI V2).2.2), (25, .int .i64 (Pk.fI V2).1), (26, u2), (27, .int .i64 (Pk.fI V2).2.2), (89, .agg #[vb, w1, w2, w3]), (90, .int .i64 (i : Int))] (.cons rfl (.cons rfl (.cons rfl (.cons rfl (.cons rfl (.cons rfl (.cons rfl (.cons rfl (.cons rfl (.cons rfl (.cons rfl (.cons rfl (Sub.nil _))))))))))))) ?_
  refine Sm.seqW ?_
  conv => whnf
  repeat (refine Br.no n1 ?_; conv => whnf)
  refine Om.of _ (sb_str (g11.keep0 k12)) ?_
  conv => whnf
  repeat (refine Br.no n1 ?_; conv => whnf)
  refine Om.of _ (sb_str g12) ?_
  conv => whnf
  repeat (refine Br.no n1 ?_; conv => whnf)
  refine Om.of (.bool false) (congrArg (fun b => some (Value.bool b)) n2) ?_
  conv => whnf
  repeat (first | (refine Br.no n1 ?_; conv => whnf) | (refine Br.no rfl ?_; conv => whnf) | (refine Br.no n3 ?_; conv => whnf))
  refine Sm.weak [(4, .int .i64 cut), (5, .int .i64 at_), (6, .int .u8 wi), (21, v2), (89, .agg #[vb, w1, w2, w3]), (90, .int .i64 (i : Int))] (.cons rfl (.cons rfl (.cons rfl (.cons rfl (.cons rfl (.cons rfl (Sub.nil _))))))) ?_
  have sv12 := (sv2.keep0 k11).keep0 k12
  refine Sm.seqW ?_
  conv => whnf
  refine (readText_u k12.wf sv12 hV2).mono ?_
  rintro r13 s13 ⟨k13, u3, κ13, rfl, g13⟩
  conv => whnf
  refine Sm.weak [(4, .int .i64 cut), (5, .int .i64 at_), (6, .int .u8 wi), (21, v2), (28, .string ⟨(Pk.fT V2).1.toArray⟩), (29, u3), (30, .int .i64 (Pk.fT V2).2.2), (89, .agg #[vb, w1, w2, w3]), (90, .int .i64 (i : Int))] (.cons rfl (.cons rfl (.cons rfl (.cons rfl (.cons rfl (.cons rfl (.cons rfl (.cons rfl (.cons rfl (Sub.nil _)))))))))) ?_
  refine Sm.seqW ?_
  conv => whnf
  refine (refReadText_u k13.wf (sv12.keep0 k13) hV2).mono ?_
  rintro r14 s14 ⟨k14, u4, κ14, rfl, g14⟩
  have n4 : (!((Pk.fT V2).1 == (Pk.fT V2).1)) = false := by simp
  have n5 : (!((Pk.fT V2).2.1 == (Pk.fT V2).2.1)) = false := by simp
  have n6 : ((Pk.fT V2).2.2 != (Pk.fT V2).2.2) = false := by simp
  conv => whnf
  refine Sm.weak [(4, .int .i64 cut), (5, .int .i64 at_), (6, .int .u8 wi), (28, .string ⟨(Pk.fT V2).1.toArray⟩), (29, u3), (30, .int .i64 (Pk.fT V2).2.2), (31, .string ⟨(Pk.fT V2).1.toArray⟩), (32, u4), (33, .int .i64 (Pk.fT V2).2.2), (89, .agg #[vb, w1, w2, w3]), (90, .int .i64 (i : Int))] (.cons rfl (.cons rfl (.cons rfl (.cons rfl (.cons rfl (.cons rfl (.cons rfl (.cons rfl (.cons rfl (.cons rfl (.cons rfl (Sub.nil _)))))))))))) ?_
  refine Sm.ofW ?_
  conv => whnf
  refine Om.of (.bool false) (congrArg (fun b => some (Value.bool b)) n4) ?_
  conv => whnf
  repeat (refine Br.no rfl ?_; conv => whnf)
  refine Om.of _ (sb_str (g13.keep0 k14)) ?_
  conv => whnf
  repeat (refine Br.no rfl ?_; conv => whnf)
  refine Om.of _ (sb_str g14) ?_
  conv => whnf
  repeat (refine Br.no rfl ?_; conv => whnf)
  refine Om.of (.bool false) (congrArg (fun b => some (Value.bool b)) n5) ?_
  conv => whnf
  repeat (first | (refine Br.no rfl ?_; conv => whnf) | (refine Br.no n6 ?_; conv => whnf))
  refine Sm.ofW ?_
  conv => whnf
  have hi1 : IntKind.i64.wrap ((i : Int) + 1) = ((i + 1 : Nat) : Int) := by rw [wrap_i64 (by omega) (by omega)]; omega
  exact ⟨i + 1, by (show 4 - (i + 1) < 4 - i); omega, .cons rfl (.cons rfl (.cons rfl (.cons rfl (.cons (congrArg (fun x => some (Value.int .i64 x)) hi1) (Sub.nil _))))), (((k9.then k11).then k12).then k13).then k14, by omega⟩
end Go.Ev
