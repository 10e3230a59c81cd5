/- What PackBack says. No condition. -/
import Derived.Test.YtbhccillpdlamaaK5
import Derived.Test.YtbhccillpdlamaaF2
noncomputable section
namespace Go.Ev
open Go.Proofs
set_option linter.unusedVariables false
set_option maxRecDepth 100000

theorem B43 : SlT Try.prog 43 3 1 8 (.int .i64 0) := ⟨Try.underlying43, ⟨_, rfl, rfl, rfl, rfl⟩, rfl, rfl, by decide, by decide⟩
theorem B44 : SlT Try.prog 44 9 1 16 (.string ⟨#[]⟩) := ⟨Try.underlying44, ⟨_, rfl, rfl, rfl, rfl⟩, rfl, rfl, by decide, by decide⟩
/-- Numbers and texts, one behind the other. -/
def Pk.encA : List Int → List ByteArray → List UInt8
  | [], _ => []
  | n :: r, [] => Pk.encI n ++ Pk.encA r []
  | n :: r, t :: ts => Pk.encI n ++ (Pk.encI (bs t).length ++ (bs t ++ Pk.encA r ts))
theorem Pk.mem_sum {t : ByteArray} : ∀ {ts : List ByteArray}, t ∈ ts → (bs t).length ≤ sumLen ts
  | x :: ts, h => by
    rcases List.mem_cons.1 h with rfl | h
    · simp [sumLen]
    · have := Pk.mem_sum h; simp [sumLen]; omega
theorem Pk.encA_len : ∀ (L : List Int) (ts : List ByteArray), (∀ n ∈ L, Pk.inR n) → sumLen ts ≤ 1048576 → (Pk.encA L ts).length ≤ 20 * L.length + sumLen ts
  | [], _, _, _ => by simp [Pk.encA]
  | n :: r, [], h, h2 => by
    have h1 := Pk.encI_len (h n (by simp))
    have := Pk.encA_len r [] (fun m hm => h m (by simp [hm])) h2
    simp [Pk.encA, sumLen] at *; omega
  | n :: r, t :: ts, h, h2 => by
    have h1 := Pk.encI_len (h n (by simp))
    simp only [sumLen] at h2
    have h3 := Pk.encI_len (n := ((bs t).length : Int)) (by unfold Pk.inR; omega)
    have := Pk.encA_len r ts (fun m hm => h m (by simp [hm])) (by omega)
    simp [Pk.encA, sumLen] at *; omega
theorem Pk.readT_enc (t r : List UInt8) (h : t.length < 9223372036854775808) : Pk.readT (Pk.encI t.length ++ (t ++ r)) = some (t, r) := by
  unfold Pk.readT
  rw [Pk.readI_enc (by unfold Pk.inR; omega)]
  simp only
  rw [if_pos (by simp; omega)]
  simp
theorem drop_cons {α : Type} {l : List α} {i : Nat} (h : i < l.length) : l.drop i = l[i] :: l.drop (i + 1) := List.drop_eq_getElem_cons h

theorem packBack_walk {s : St} (wf : WF s) {κl : Option Nat} {vl : Value} {L : List Int} (hl : Sl s κl vl 1 L.length (L.map (Value.int .i64))) (hL : L.length ≤ 1048576) (hin : ∀ n ∈ L, Pk.inR n)
    {κt : Option Nat} {vt : Value} {TS : List ByteArray} (ht : Sl s κt vt 1 TS.length (TS.map Value.string)) (hT : sumLen TS ≤ 1048576) (hT2 : TS.length ≤ 1048576)
    {κf : Option Nat} {vf : Value} {lf : List UInt8} (hf : Sb s κf vf lf) (hlf : lf.length ≤ 1048576) {κb : Option Nat} {vb : Value} {lb : List UInt8} (hb : Sb s κb vb lb) (hlb : lb.length ≤ 1048576) :
    Cw Try.prog 10 [vl, vt, vf, vb] s fun r _ => r = .bool true := by
  obtain ⟨al, cl, rfl⟩ := hl.shape
  obtain ⟨at_, ct, rfl⟩ := ht.shape
  have hE := Pk.encA_len L TS hin hT
  refine Cw.enterS Try.func10 rfl rfl ?_
  refine Sm.seqW ?_
  conv => whnf
  refine Sm.seqW ?_
  conv => whnf
  refine (few_spec wf hf (by omega) 20).mono ?_
  rintro b0 s1 ⟨k1, o1⟩
  have lF : (lf.take 20).length ≤ 20 := by simp; omega
  obtain ⟨a0, c0, rfl⟩ := o1.shape
  conv => whnf
  refine Sm.seqW ?_
  conv => whnf
  refine Sm.weak [(0, .slice al L.length cl), (1, .slice at_ TS.length ct), (2, vf), (3, vb), (9, .slice a0 (lf.take 20).length c0), (10, .int .i64 ((lf.take 20).length : Int))] (.cons rfl (.cons rfl (.cons rfl (.cons rfl (.cons rfl (.cons rfl (Sub.nil _))))))) ?_
  generalize hF : lf.take 20 = F at o1 lF ⊢
  refine Sm.seqW ?_
  conv => whnf
  refine Lp.ofS (α := Nat × Value × List UInt8) (fun x => [(0, .slice al L.length cl), (1, .slice at_ TS.length ct), (2, vf), (3, vb), (9, x.2.1), (10, .int .i64 (F.length : Int)), (26, .slice al L.length cl), (27, .int .i64 (L.length : Int)), (28, .int .i64 (x.1 : Int))])
    (fun x s' => K0 s s' ∧ Ob s.next s' x.2.1 x.2.2 ∧ x.1 ≤ L.length ∧ x.2.2 ++ Pk.encA (L.drop x.1) (TS.drop x.1) = F ++ Pk.encA L TS) (fun x => L.length - x.1) ?_ (0, _, F)
    (.cons rfl (.cons rfl (.cons rfl (.cons rfl (.cons rfl (.cons rfl (.cons rfl (.cons rfl (.cons rfl (Sub.nil _)))))))))) ⟨k1, o1, by omega, by simp⟩
  rintro ⟨i, v, l1⟩ s2 ⟨k2, o2, hi, he⟩
  simp only at o2 hi he
  have hlen1 : l1.length + (Pk.encA (L.drop i) (TS.drop i)).length = F.length + (Pk.encA L TS).length := by
    have := congrArg List.length he
    simpa using this
  refine Sm.seqW ?_
  conv => whnf
  refine Sm.seqW ?_
  conv => whnf
  refine Br.mk (fun hc => ?_) (fun hc => ?_)
  · have hc : i < L.length := by have := of_decide_eq_true hc; omega
    conv => whnf
    refine Sm.seq (Sm.block ?_)
    refine Sm.seqW ?_
    conv => whnf
    obtain ⟨p, x, e1, e2, e3, _, rfl⟩ := index_sl B43 Try.underlying3 rfl (hl.keep0 k2) .i64 hc
    obtain rfl : x = .int .i64 L[i] := by simp [hc] at e2; exact e2.symm
    refine Om.of _ e1 ?_
    conv => whnf
    refine Om.of _ e3 ?_
    conv => whnf
    refine Sm.weak [(0, .slice al L.length cl), (1, .slice at_ TS.length ct), (2, vf), (3, vb), (9, v), (10, .int .i64 (F.length : Int)), (11, .int .i64 (i : Int)), (12, .int .i64 L[i]), (26, .slice al L.length cl), (27, .int .i64 (L.length : Int)), (28, .int .i64 (i : Int))] (.cons rfl (.cons rfl (.cons rfl (.cons rfl (.cons rfl (.cons rfl (.cons rfl (.cons rfl (.cons rfl (.cons rfl (.cons rfl (Sub.nil _)))))))))))) ?_
    have hni := hin L[i] (List.getElem_mem hc)
    rw [drop_cons hc] at he hlen1
    obtain ⟨κ1, sb1, _⟩ := o2.slb
    refine Sm.seqW ?_
    conv => whnf
    refine (int_spec k2.wf sb1 (by omega) hni).mono ?_
    rintro v3 s3 ⟨k3, o3⟩
    have K3 := k2.then k3
    have o3 := o3.mono k2.next
    conv => whnf
    have hnx := Pk.encI_len hni
    have hi1 : IntKind.i64.wrap ((i : Int) + 1) = ((i + 1 : Nat) : Int) := by rw [wrap_i64 (by omega) (by omega)]; omega
    refine Sm.ofW ?_
    conv => whnf
    refine Br.mk (fun ht1 => ?_) (fun ht1 => ?_)
    · have hti : i < TS.length := by have := of_decide_eq_true ht1; omega
      rw [drop_cons hti] at he hlen1
      have hsz := Pk.mem_sum (List.getElem_mem hti)
      conv => whnf
      obtain ⟨p, x, e1, e2, e3, _, rfl⟩ := index_sl B44 Try.underlying9 rfl (ht.keep0 K3) .i64 hti
      obtain rfl : x = .string TS[i] := by simp [hti] at e2; exact e2.symm
      refine Om.of _ e1 ?_
      conv => whnf
      refine Om.of _ e3 ?_
      conv => whnf
      obtain ⟨κ3, sb3, _⟩ := o3.slb
      refine (text_spec K3.wf sb3 (by simp; omega) TS[i] (by simp; omega)).mono ?_
      rintro v4 s4 ⟨k4, o4⟩
      conv => whnf
      refine Sm.ofW ?_
      conv => whnf
      refine ⟨(i + 1, v4, _), by simp only; omega, .cons rfl (.cons rfl (.cons rfl (.cons rfl (.cons rfl (.cons rfl (.cons rfl (.cons rfl (.cons (congrArg (fun x => some (Value.int .i64 x)) hi1) (Sub.nil _))))))))), K3.then k4, o4.mono K3.next, by simp only; omega, ?_⟩
      simpa [Pk.encA] using he
    · have hti : TS.length ≤ i := by have := of_decide_eq_false ht1; omega
      conv => whnf
      refine Sm.ofW ?_
      conv => whnf
      refine ⟨(i + 1, v3, _), by simp only; omega, .cons rfl (.cons rfl (.cons rfl (.cons rfl (.cons rfl (.cons rfl (.cons rfl (.cons rfl (.cons (congrArg (fun x => some (Value.int .i64 x)) hi1) (Sub.nil _))))))))), K3, o3, by simp only; omega, ?_⟩
      rw [List.drop_eq_nil_of_le hti] at he
      simp only
      rw [List.drop_eq_nil_of_le (show TS.length ≤ i + 1 by omega)]
      simpa [Pk.encA] using he
  have hc : ¬ i < L.length := by have := of_decide_eq_false hc; omega
  have : i = L.length := by omega
  subst this
  have hnil : l1 = F ++ Pk.encA L TS := by
    rw [List.drop_length] at he
    simpa [Pk.encA] using he
  subst hnil
  conv => whnf
  refine Sm.weak [(0, .slice al L.length cl), (1, .slice at_ TS.length ct), (2, vf), (3, vb), (9, v), (10, .int .i64 (F.length : Int))] (.cons rfl (.cons rfl (.cons rfl (.cons rfl (.cons rfl (.cons rfl (Sub.nil _))))))) ?_
  refine Sm.seqW ?_
  conv => whnf
  refine (few_spec k2.wf (hb.keep0 k2) (by omega) 20).mono ?_
  rintro v5 s5 ⟨k5, o5⟩
  have lB : (lb.take 20).length ≤ 20 := by simp; omega
  generalize hBH : lb.take 20 = BH at o5 lB
  conv => whnf
  have K5 := k2.then k5
  obtain ⟨κ5, sb5, _⟩ := o5.slb
  obtain ⟨v6, s6, e6, o6, k6⟩ := append_ownN B26 Try.underlying26 rfl K5.wf K5.next (o2.keep0 k5) (elems_sl sb5) (by simp [byteVals]) (byteVals_one _) (by simp; omega)
  rw [← byteVals_append] at o6
  have o6 := Ob.of o6
  have K6 := K5.touch k6 (fun _ h => h)
  refine Om.of (v6, s6) e6 ?_
  conv => whnf
  have lAll : (F ++ Pk.encA L TS ++ BH).length = F.length + (Pk.encA L TS).length + BH.length := by simp; omega
  have hlE : (Pk.encA L TS).length ≤ 22020096 := by omega
  generalize hE' : Pk.encA L TS = E at o6 lAll hlE
  refine Sm.weak [(0, .slice al L.length cl), (1, .slice at_ TS.length ct), (2, vf), (3, vb), (9, v6), (10, .int .i64 (F.length : Int))] (.cons rfl (.cons rfl (.cons rfl (.cons rfl (.cons rfl (.cons rfl (Sub.nil _))))))) ?_
  obtain ⟨κ6, sb6, _⟩ := o6.slb
  obtain ⟨a6, c6, rfl⟩ := sb6.shape
  -- the front
  refine Sm.seqC (fun e L' s' => e = .normal ∧ K0 s6 s' ∧ Sub [(0, .slice al L.length cl), (1, .slice at_ TS.length ct), (3, vb), (9, .slice a6 (F ++ E ++ BH).length c6), (10, .int .i64 (F.length : Int))] L') ?_ ?_
  · conv => whnf
    refine ⟨[0, 1, 3, 7, 15, 7, 63, 127, 255, 511, 511, 2047, 4095, 511, 8703, 25087, 65535, 131071], by decide +kernel, by decide +kernel, ?_⟩
    conv => whnf
    refine (known_spec K6.wf.reset).mono ?_
    rintro r7 s7 ⟨rfl, k7⟩
    conv => whnf
    refine Dk.nw (k7.low_reset fun _ h => h.elim) ?_
    have k8 := k7.of_reset K6.wf
    generalize relow s6 s7 = s8 at k8
    have wf8 := k8.wf
    have hcmp : decide (((F ++ E ++ BH).length : Int) < (F.length : Int)) = false := decide_eq_false (by omega)
    conv => whnf
    repeat (first | (refine Br.no rfl ?_; conv => whnf) | (refine Br.no hcmp ?_; conv => whnf))
    obtain ⟨w9, e9, h9⟩ := slice_to (sb6.keep0 k8).reset .i64 (n := F.length) (by omega)
    refine Om.of w9 e9 ?_
    conv => whnf
    refine Dk.same wf8 ?_
    conv => whnf
    repeat (first | (refine Br.no rfl ?_; conv => whnf) | (refine Br.no hcmp ?_; conv => whnf))
    have h9' : Sb (reset s8) κ6 w9 F := by
      have : (F ++ E ++ BH).take F.length = F := by simp
      rw [this] at h9; exact h9
    refine Om.of _ (string_sl Try.underlying26 Try.underlying9 Try.underlying5 h9') ?_
    conv => whnf
    refine Dk.same wf8 ?_
    conv => whnf
    repeat (first | (refine Br.no rfl ?_; conv => whnf) | (refine Br.no hcmp ?_; conv => whnf))
    refine (few_spec wf8.reset ((hf.keep0 K6).keep0 k8).reset (by omega) 20).mono ?_
    rintro v10 s10 ⟨k10, o10⟩
    rw [hF] at o10
    conv => whnf
    refine Dk.nw (k10.low_reset fun _ h => h.elim) ?_
    have k11 := k10.of_reset wf8
    have o11 := o10.relow (s := s8)
    generalize relow s8 s10 = s11 at k11 o11
    have wf11 := k11.wf
    conv => whnf
    repeat (first | (refine Br.no rfl ?_; conv => whnf) | (refine Br.no hcmp ?_; conv => whnf))
    refine Om.of _ (ob_str o11.reset) ?_
    conv => whnf
    refine Dk.same wf11 ?_
    conv => whnf
    repeat (first | (refine Br.no rfl ?_; conv => whnf) | (refine Br.no hcmp ?_; conv => whnf))
    refine Om.of (.bool false) (congrArg (fun b => some (Value.bool b)) (show (!(F == F)) = false by simp)) ?_
    conv => whnf
    repeat (first | (refine Br.no rfl ?_; conv => whnf) | (refine Br.no hcmp ?_; conv => whnf))
    exact ⟨rfl, k8.then k11, .cons rfl (.cons rfl (.cons rfl (.cons rfl (.cons rfl (Sub.nil _)))))⟩
  rintro e L' s12 ⟨rfl, k12, hs⟩
  refine Sm.weak _ hs ?_
  clear hs
  have K12 := K6.then k12
  refine Sm.seqW ?_
  conv => whnf
  obtain ⟨w13, e13, h13⟩ := slice_from (sb6.keep0 k12) .i64 (n := F.length) (by omega)
  refine Om.of w13 e13 ?_
  conv => whnf
  have h13' : Sb s12 κ6 w13 (E ++ BH) := by
    have : (F ++ E ++ BH).drop F.length = E ++ BH := by simp
    rw [this] at h13; exact h13
  refine Sm.weak [(0, .slice al L.length cl), (1, .slice at_ TS.length ct), (3, vb), (13, w13)] (.cons rfl (.cons rfl (.cons rfl (.cons rfl (Sub.nil _))))) ?_
  subst hE'
  refine Sm.seqW ?_
  conv => whnf
  refine Lp.ofS (α := Nat × Value) (fun x => [(0, .slice al L.length cl), (1, .slice at_ TS.length ct), (3, vb), (13, x.2), (72, .slice al L.length cl), (73, .int .i64 (L.length : Int)), (74, .int .i64 (x.1 : Int))])
    (fun x s' => K0 s s' ∧ x.1 ≤ L.length ∧ (∃ κ, Sb s' κ x.2 (Pk.encA (L.drop x.1) (TS.drop x.1) ++ BH)) ∧ (Pk.encA (L.drop x.1) (TS.drop x.1)).length ≤ 22020096) (fun x => L.length - x.1) ?_ (0, w13)
    (.cons rfl (.cons rfl (.cons rfl (.cons rfl (.cons rfl (.cons rfl (.cons rfl (Sub.nil _)))))))) ⟨K12, by omega, ⟨κ6, by simpa using h13'⟩, by simpa using hlE⟩
  rintro ⟨i, v⟩ s14 ⟨k14, hi, ⟨κ, sv⟩, hll⟩
  simp only at hi sv hll
  refine Sm.seqW ?_
  conv => whnf
  refine Sm.seqW ?_
  conv => whnf
  refine Br.mk (fun hc => ?_) (fun hc => ?_)
  · have hc : i < L.length := by have := of_decide_eq_true hc; omega
    have hni := hin L[i] (List.getElem_mem hc)
    conv => whnf
    refine Sm.seq (Sm.block ?_)
    refine Sm.seqW ?_
    conv => whnf
    obtain ⟨p, x, e1, e2, e3, _, rfl⟩ := index_sl B43 Try.underlying3 rfl (hl.keep0 k14) .i64 hc
    obtain rfl : x = .int .i64 L[i] := by simp [hc] at e2; exact e2.symm
    refine Om.of _ e1 ?_
    conv => whnf
    refine Om.of _ e3 ?_
    conv => whnf
    refine Sm.weak [(0, .slice al L.length cl), (1, .slice at_ TS.length ct), (3, vb), (13, v), (14, .int .i64 (i : Int)), (15, .int .i64 L[i]), (72, .slice al L.length cl), (73, .int .i64 (L.length : Int)), (74, .int .i64 (i : Int))] (.cons rfl (.cons rfl (.cons rfl (.cons rfl (.cons rfl (.cons rfl (.cons rfl (.cons rfl (.cons rfl (Sub.nil _)))))))))) ?_
    rw [drop_cons hc] at sv hll
    have hi1 : IntKind.i64.wrap ((i : Int) + 1) = ((i + 1 : Nat) : Int) := by rw [wrap_i64 (by omega) (by omega)]; omega
    refine Sm.seqW ?_
    conv => whnf
    refine (readInt_spec k14.wf sv (by rw [List.length_append]; omega)).mono ?_
    rintro r15 s15 ⟨k15, hr15⟩
    have K15 := k14.then k15
    have hne : (L[i] != L[i]) = false := by simp
    by_cases hti : i < TS.length
    · rw [drop_cons hti] at sv hll hr15
      have hsz := Pk.mem_sum (List.getElem_mem hti)
      have hrd : Pk.readI (Pk.encA (L[i] :: L.drop (i + 1)) (TS[i] :: TS.drop (i + 1)) ++ BH) = some (L[i], Pk.encI (bs TS[i]).length ++ (bs TS[i] ++ (Pk.encA (L.drop (i + 1)) (TS.drop (i + 1)) ++ BH))) := by
        simp only [Pk.encA, List.append_assoc]
        exact Pk.readI_enc hni _
      rcases hr15 with ⟨hr, _⟩ | ⟨n, rest, w, hr, rfl, ow⟩
      · rw [hrd] at hr; cases hr
      rw [hrd] at hr
      injection hr with hr
      injection hr with hr1 hr2
      subst hr1 hr2
      conv => whnf
      refine Sm.weak [(0, .slice al L.length cl), (1, .slice at_ TS.length ct), (3, vb), (14, .int .i64 (i : Int)), (15, .int .i64 L[i]), (16, .int .i64 L[i]), (17, w), (18, .int .i64 0), (72, .slice al L.length cl), (73, .int .i64 (L.length : Int)), (74, .int .i64 (i : Int))] (.cons rfl (.cons rfl (.cons rfl (.cons rfl (.cons rfl (.cons rfl (.cons rfl (.cons rfl (.cons rfl (.cons rfl (.cons rfl (Sub.nil _)))))))))))) ?_
      refine Sm.seqW ?_
      conv => whnf
      repeat (first | (refine Br.no rfl ?_; conv => whnf) | (refine Br.no hne ?_; conv => whnf))
      refine Sm.seqW ?_
      conv => whnf
      refine Sm.seqW ?_
      conv => whnf
      have hlt : decide ((i : Int) < (TS.length : Int)) = true := decide_eq_true (by omega)
      refine Sm.cond (v := decide ((i : Int) < (TS.length : Int))) rfl (fun _ => ?_) (fun h => by rw [hlt] at h; cases h)
      refine Sm.weak [(0, .slice al L.length cl), (1, .slice at_ TS.length ct), (3, vb), (13, w), (14, .int .i64 (i : Int)), (72, .slice al L.length cl), (73, .int .i64 (L.length : Int)), (74, .int .i64 (i : Int))] (.cons rfl (.cons rfl (.cons rfl (.cons rfl (.cons rfl (.cons rfl (.cons rfl (.cons rfl (Sub.nil _))))))))) ?_
      obtain ⟨κw, sw, _⟩ := ow.slb
      simp only [Pk.encA, List.length_append] at hll
      have hel := Pk.encI_len (n := ((bs TS[i]).length : Int)) (by unfold Pk.inR; omega)
      refine Sm.seqW ?_
      conv => whnf
      refine (readText_spec K15.wf sw (by simp; omega)).mono ?_
      rintro r16 s16 ⟨k16, hr16⟩
      have hrt := Pk.readT_enc (bs TS[i]) (Pk.encA (L.drop (i + 1)) (TS.drop (i + 1)) ++ BH) (by omega)
      rcases hr16 with ⟨hr, _⟩ | ⟨a1, rest, w2, hr, rfl, ow2⟩
      · rw [hrt] at hr; cases hr
      rw [hrt] at hr
      injection hr with hr
      injection hr with hr1 hr2
      subst hr1 hr2
      have K16 := K15.then k16
      conv => whnf
      refine Sm.seqW ?_
      conv => whnf
      obtain ⟨p, x, e1, e2, e3, _, rfl⟩ := index_sl B44 Try.underlying9 rfl (ht.keep0 K16) .i64 hti
      obtain rfl : x = .string TS[i] := by simp [hti] at e2; exact e2.symm
      repeat (refine Br.no rfl ?_; conv => whnf)
      refine Om.of _ e1 ?_
      conv => whnf
      repeat (refine Br.no rfl ?_; conv => whnf)
      refine Om.of _ e3 ?_
      conv => whnf
      repeat (refine Br.no rfl ?_; conv => whnf)
      refine Om.of (.bool false) (congrArg (fun b => some (Value.bool b)) (show (!(bs TS[i] == bs TS[i])) = false by simp)) ?_
      conv => whnf
      repeat (refine Br.no rfl ?_; conv => whnf)
      refine Sm.ofW ?_
      conv => whnf
      refine Sm.ofW ?_
      conv => whnf
      obtain ⟨κw2, sw2, _⟩ := ow2.slb
      exact ⟨(i + 1, w2), by simp only; omega, .cons rfl (.cons rfl (.cons rfl (.cons rfl (.cons rfl (.cons rfl (.cons (congrArg (fun x => some (Value.int .i64 x)) hi1) (Sub.nil _))))))), K16, by simp only; omega, ⟨κw2, sw2⟩, by simp only; omega⟩
    · have hT0 : TS.drop i = [] := List.drop_eq_nil_of_le (by omega)
      have hT1 : TS.drop (i + 1) = [] := List.drop_eq_nil_of_le (by omega)
      rw [hT0] at sv hll hr15
      have hrd : Pk.readI (Pk.encA (L[i] :: L.drop (i + 1)) [] ++ BH) = some (L[i], Pk.encA (L.drop (i + 1)) [] ++ BH) := by
        simp only [Pk.encA, List.append_assoc]
        exact Pk.readI_enc hni _
      rcases hr15 with ⟨hr, _⟩ | ⟨n, rest, w, hr, rfl, ow⟩
      · rw [hrd] at hr; cases hr
      rw [hrd] at hr
      injection hr with hr
      injection hr with hr1 hr2
      subst hr1 hr2
      conv => whnf
      refine Sm.weak [(0, .slice al L.length cl), (1, .slice at_ TS.length ct), (3, vb), (14, .int .i64 (i : Int)), (15, .int .i64 L[i]), (16, .int .i64 L[i]), (17, w), (18, .int .i64 0), (72, .slice al L.length cl), (73, .int .i64 (L.length : Int)), (74, .int .i64 (i : Int))] (.cons rfl (.cons rfl (.cons rfl (.cons rfl (.cons rfl (.cons rfl (.cons rfl (.cons rfl (.cons rfl (.cons rfl (.cons rfl (Sub.nil _)))))))))))) ?_
      refine Sm.seqW ?_
      conv => whnf
      repeat (first | (refine Br.no rfl ?_; conv => whnf) | (refine Br.no hne ?_; conv => whnf))
      refine Sm.seqW ?_
      conv => whnf
      refine Sm.seqW ?_
      conv => whnf
      have hlt : decide ((i : Int) < (TS.length : Int)) = false := decide_eq_false (by omega)
      refine Sm.cond (v := decide ((i : Int) < (TS.length : Int))) rfl (fun h => by rw [hlt] at h; cases h) (fun _ => ?_)
      refine Sm.ofW ?_
      conv => whnf
      refine Sm.ofW ?_
      conv => whnf
      obtain ⟨κw, sw, _⟩ := ow.slb
      simp only [Pk.encA, List.length_append] at hll
      exact ⟨(i + 1, w), by simp only; omega, .cons rfl (.cons rfl (.cons rfl (.cons rfl (.cons rfl (.cons rfl (.cons (congrArg (fun x => some (Value.int .i64 x)) hi1) (Sub.nil _))))))), K15, by simp only; omega, ⟨κw, by simp only; rw [hT1]; exact sw⟩, by simp only; rw [hT1]; omega⟩
  · have hc : ¬ i < L.length := by have := of_decide_eq_false hc; omega
    have : i = L.length := by omega
    subst this
    rw [List.drop_length] at sv
    simp only [Pk.encA, List.nil_append] at sv
    conv => whnf
    refine Sm.weak [(3, vb), (13, v)] (.cons rfl (.cons rfl (Sub.nil _))) ?_
    refine Sm.ofW ?_
    conv => whnf
    refine ⟨[0, 1, 0, 4, 12, 31, 63], by decide +kernel, by decide +kernel, ?_⟩
    conv => whnf
    refine Om.of _ (string_sl Try.underlying26 Try.underlying9 Try.underlying5 sv.reset) ?_
    conv => whnf
    refine Dk.same k14.wf ?_
    conv => whnf
    refine (few_spec k14.wf.reset (hb.keep0 k14).reset (by omega) 20).mono ?_
    rintro v17 s17 ⟨k17, o17⟩
    rw [hBH] at o17
    conv => whnf
    refine Dk.nw (k17.low_reset fun _ h => h.elim) ?_
    have k18 := k17.of_reset k14.wf
    have o18 := o17.relow (s := s14)
    generalize relow s14 s17 = s18 at k18 o18
    conv => whnf
    refine Om.of _ (ob_str o18.reset) ?_
    conv => whnf
    refine Dk.same k18.wf ?_
    conv => whnf
    refine Om.of (.bool true) (congrArg (fun b => some (Value.bool b)) (show (BH == BH) = true by simp)) ?_
    conv => whnf
    exact ⟨rfl⟩
end Go.Ev
