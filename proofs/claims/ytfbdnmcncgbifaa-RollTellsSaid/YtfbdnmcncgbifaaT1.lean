/- Texts as bytes; the document's numbers and texts, printed. No condition. -/
import Derived.Test.YtfbdnmcncgbifaaK1
noncomputable section
namespace Go.Ev
open Go.Proofs
set_option linter.unusedVariables false
set_option maxRecDepth 100000

theorem text_spec {s : St} (wf : WF s) {κ : Option Nat} {v : Value} {l : List UInt8} (h : Sb s κ v l) (hl : l.length ≤ 150000000000000) (t : ByteArray) (ht : l.length + (bs t).length ≤ 200000000000000) :
    Cw Try.prog 47 [v, .string t] s fun r s' => K0 s s' ∧ Ob s.next s' r (l ++ Pk.encI (bs t).length ++ bs t) := by
  have hin : Pk.inR ((bs t).length : Int) := by unfold Pk.inR; omega
  have hel := Pk.encI_len hin
  refine Cw.enter Try.func47 rfl rfl ?_
  conv => whnf
  refine (int_spec wf h hl hin).mono ?_
  rintro v1 s1 ⟨k1, o1⟩
  conv => whnf
  obtain ⟨v2, s2, e2, o2, k2⟩ := append_ownN B26 Try.underlying9 rfl k1.wf k1.next o1 (elems_str s1 t) (by simp [byteVals]) (byteVals_one _) (by simp; omega)
  rw [← byteVals_append] at o2
  refine Om.of (v2, s2) e2 ?_
  conv => whnf
  refine (clip_spec o2).mono ?_
  rintro v3 s3 ⟨rfl, rfl⟩
  conv => whnf
  exact ⟨⟨k1.touch k2 fun _ h => h, Ob.of o2⟩⟩
theorem zz2 {n : Int} (h : Pk.inR n) (h0 : 0 ≤ n) : IntKind.u64.wrap (IntKind.u64.wrap n * 2) = ((Pk.zig n : Nat) : Int) := by
  obtain ⟨h1, h2⟩ := h
  unfold Pk.zig; rw [if_pos h0, wrap_u64i, wrap_u64i]; omega
theorem zz3 {n : Int} (h : Pk.inR n) (h0 : n < 0) : IntKind.u64.wrap (IntKind.u64.wrap (IntKind.u64.wrap (IntKind.i64.wrap (0 - IntKind.i64.wrap (n + 1))) * 2) + 1) = ((Pk.zig n : Nat) : Int) := by
  obtain ⟨h1, h2⟩ := h
  unfold Pk.zig; rw [if_neg (by omega), wrap_i64 (n := n + 1) (by omega) (by omega), wrap_i64 (n := 0 - (n + 1)) (by omega) (by omega), wrap_u64i, wrap_u64i, wrap_u64i]; omega
theorem ref_group (u : Nat) : IntKind.u8.wrap (IntKind.u8.wrap ((u : Int).tmod 128) + 128) = ((u % 128 + 128 : Nat) : Int) := by
  have : (u : Int).tmod 128 = ((u % 128 : Nat) : Int) := by rw [Int.tmod_eq_emod_of_nonneg (by omega)]; omega
  rw [this, wrap_u8i, wrap_u8i]; omega
theorem ref_quo {u : Nat} (h : u < 18446744073709551616) : IntKind.u64.wrap ((u : Int).tdiv 128) = ((u / 128 : Nat) : Int) := by
  have : (u : Int).tdiv 128 = ((u / 128 : Nat) : Int) := by rw [Int.tdiv_eq_ediv_of_nonneg (by omega)]; omega
  rw [this, wrap_u64]; omega
theorem refInt_spec {s : St} (wf : WF s) {κ : Option Nat} {v : Value} {l : List UInt8} (h : Sb s κ v l) (hl : l.length ≤ 150000000000000) {n : Int} (hn : Pk.inR n) :
    Cw Try.prog 63 [v, .int .i64 n] s fun r s' => K0 s s' ∧ Ob s.next s' r (l ++ Pk.encI n) := by
  have hel := Pk.encI_len hn
  refine Cw.enterS Try.func63 rfl rfl ?_
  refine Sm.seqW ?_
  conv => whnf
  refine Sm.seqW ?_
  conv => whnf
  obtain ⟨v1, s1, e1, o1, k1⟩ := buildSlice0 B26 wf
  refine Om.of (v1, s1) e1 ?_
  conv => whnf
  obtain ⟨v2, s2, e2, o2, k2⟩ := append_own B26 Try.underlying32 rfl k1.wf o1 (elems_sl (h.keep0 k1)) (by simp [byteVals]) (byteVals_one _) (by omega)
  rw [Nat.zero_add, List.nil_append] at o2
  have K2 : K0 s s2 := k1.touch k2 (fun j hj => by omega)
  have ob2 := o2.n K2.wf (Nat.le_refl s.next)
  refine Om.of (v2, s2) e2 ?_
  conv => whnf
  refine Sm.weak [(1, .int .i64 n), (5, v2)] (.cons rfl (.cons rfl (Sub.nil _))) ?_
  refine Sm.seqW ?_
  conv => whnf
  refine Sm.seqC (fun e L' s' => e = .normal ∧ s' = s2 ∧ Sub [(5, v2), (6, .int .u64 (Pk.zig n : Int))] L') ?_ ?_
  · conv => whnf
    refine Br.mk (fun hq => ?_) (fun hq => ?_)
    · have hq := of_decide_eq_true hq
      conv => whnf
      exact ⟨rfl, rfl, .cons rfl (.cons (congrArg (fun x => some (Value.int .u64 x)) (zz3 hn hq)) (Sub.nil _))⟩
    · have hq := of_decide_eq_false hq
      conv => whnf
      exact ⟨rfl, rfl, .cons rfl (.cons (congrArg (fun x => some (Value.int .u64 x)) (zz2 hn (by omega))) (Sub.nil _))⟩
  rintro e L' s' ⟨rfl, rfl, hs⟩
  refine Sm.weak _ hs ?_
  clear hs
  refine Sm.seqW ?_
  conv => whnf
  refine Lp.ofS (α := Nat × Value × List UInt8) (fun x => [(5, x.2.1), (6, .int .u64 (x.1 : Int))])
    (fun x s1' => K0 s s1' ∧ Ob s.next s1' x.2.1 x.2.2 ∧ x.2.2 ++ Pk.encU x.1 = l ++ Pk.encI n ∧ x.1 < 18446744073709551616) (fun x => x.1) ?_ (Pk.zig n, v2, l)
    (.cons rfl (.cons rfl (Sub.nil _))) ⟨K2, Ob.of ob2, rfl, Pk.zig_lt hn⟩
  rintro ⟨u, w, l1⟩ s3 ⟨k3, o3, he, hu⟩
  have hle : l1.length + (Pk.encU u).length = l.length + (Pk.encI n).length := by
    have := congrArg List.length he
    simpa using this
  have hup := Pk.encU_pos u
  simp only at o3 hu
  refine Sm.seqW ?_
  conv => whnf
  refine Br.mk (fun hc => ?_) (fun hc => ?_)
  · have hc : 128 ≤ u := by have := of_decide_eq_true hc; omega
    conv => whnf
    refine Sm.ofW ?_
    conv => whnf
    refine Om.of _ rfl ?_
    conv => whnf
    obtain ⟨v4, s4, e4, o4, k4⟩ := buildSlice1 (x := .int .u8 (IntKind.u8.wrap (IntKind.u8.wrap ((u : Int).tmod 128) + 128))) B26 k3.wf rfl
    refine Om.of (v4, s4) e4 ?_
    conv => whnf
    obtain ⟨v5, s5, e5, o5, k5⟩ := append_ownN B26 Try.underlying32 rfl k4.wf (Nat.le_trans k3.next k4.next) (o3.keep0 k4) (elems_sl o4.sl) rfl rfl (by omega)
    refine Om.of (v5, s5) e5 ?_
    conv => whnf
    refine Om.of _ rfl ?_
    conv => whnf
    rw [ref_group, byteVals_snoc _ _ (by omega)] at o5
    refine ⟨(u / 128, v5, l1 ++ [UInt8.ofNat (u % 128 + 128)]), by simp only; omega, .cons rfl (.cons (congrArg (fun x => some (Value.int .u64 x)) (ref_quo hu)) (Sub.nil _)), (k3.then k4).touch k5 (fun _ h => h), Ob.of o5, ?_, by simp only; omega⟩
    rw [Pk.encU_eq u, if_neg (by omega)] at he
    simpa using he
  · have hc : u < 128 := by have := of_decide_eq_false hc; omega
    conv => whnf
    refine Sm.ofW ?_
    conv => whnf
    obtain ⟨v4, s4, e4, o4, k4⟩ := buildSlice1 (x := .int .u8 (IntKind.u8.wrap (u : Int))) B26 k3.wf rfl
    refine Om.of (v4, s4) e4 ?_
    conv => whnf
    obtain ⟨v5, s5, e5, o5, k5⟩ := append_ownN B26 Try.underlying32 rfl k4.wf (Nat.le_trans k3.next k4.next) (o3.keep0 k4) (elems_sl o4.sl) rfl rfl (by omega)
    refine Om.of (v5, s5) e5 ?_
    conv => whnf
    rw [wrap_u8, byteVals_snoc _ _ (by omega)] at o5
    rw [Pk.encU_eq u, if_pos hc] at he
    refine ⟨(k3.then k4).touch k5 (fun _ h => h), ?_⟩
    rw [← he]
    have : u % 256 = u := by omega
    rw [this] at o5
    exact Ob.of o5
theorem refText_spec {s : St} (wf : WF s) {κ : Option Nat} {v : Value} {l : List UInt8} (h : Sb s κ v l) (hl : l.length ≤ 150000000000000) (t : ByteArray) (ht : l.length + (bs t).length ≤ 200000000000000) :
    Cw Try.prog 54 [v, .string t] s fun r s' => K0 s s' ∧ Ob s.next s' r (l ++ Pk.encI (bs t).length ++ bs t) := by
  have hin : Pk.inR ((bs t).length : Int) := by unfold Pk.inR; omega
  have hel := Pk.encI_len hin
  refine Cw.enter Try.func54 rfl rfl ?_
  conv => whnf
  refine (refInt_spec wf h hl hin).mono ?_
  rintro v1 s1 ⟨k1, o1⟩
  conv => whnf
  obtain ⟨v2, s2, e2, o2, k2⟩ := append_ownN B26 Try.underlying9 rfl k1.wf k1.next o1 (elems_str s1 t) (by simp [byteVals]) (byteVals_one _) (by simp; omega)
  rw [← byteVals_append] at o2
  refine Om.of (v2, s2) e2 ?_
  conv => whnf
  exact ⟨⟨k1.touch k2 fun _ h => h, Ob.of o2⟩⟩
end Go.Ev
