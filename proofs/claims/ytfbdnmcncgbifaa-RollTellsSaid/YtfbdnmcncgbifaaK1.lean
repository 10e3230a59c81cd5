/- What the functions of pack, and the helpers, do. No condition. -/
import Derived.Test.YtfbdnmcncgbifaaP1
import Derived.Test.YtfbdnmcncgbifaaH1
noncomputable section
namespace Go.Ev
open Go.Proofs
set_option linter.unusedVariables false
set_option maxRecDepth 100000

theorem clip_spec {s : St} {m n : Nat} {v : Value} {cs : List Value} (h : OwnN m s v 1 n cs) :
    Cw Try.prog 57 [v] s fun r s' => r = v ∧ s' = s := by
  refine Cw.enter Try.func57 rfl rfl ?_
  obtain ⟨κ, h1, _⟩ := h.sl
  have e1 := evLen_sl Try.underlying32 h1
  have e2 := clip_ownN B26 h .i64 .i64
  rcases h.ex with ⟨rfl, rfl, rfl⟩ | ⟨k, _, _, h4⟩
  · conv => whnf
    refine Om.of _ e2 ?_
    conv => whnf
    exact ⟨⟨rfl, rfl⟩⟩
  · obtain ⟨b, rfl, _⟩ := h4.ex
    conv => whnf
    refine Om.of _ e2 ?_
    conv => whnf
    exact ⟨⟨rfl, rfl⟩⟩
theorem zz {n : Int} (h : Pk.inR n) : IntKind.u64.wrap ((BitVec.ofInt IntKind.u64.bits (IntKind.u64.wrap (IntKind.u64.wrap n * 2 ^ 1)) ^^^ BitVec.ofInt IntKind.u64.bits (IntKind.u64.wrap (n.fdiv (2 ^ 63)))).toNat : Int) = ((Pk.zig n : Nat) : Int) := by
  obtain ⟨h1, h2⟩ := h
  have hz := Pk.zig_lt ⟨h1, h2⟩
  have e1 : IntKind.u64.wrap (IntKind.u64.wrap n * 2 ^ 1) = (((2 * n % 18446744073709551616).toNat : Nat) : Int) := by
    rw [wrap_u64i, wrap_u64i]; omega
  have e2 : n.fdiv (2 ^ 63) = n / 9223372036854775808 := by rw [Int.fdiv_eq_ediv_of_nonneg _ (by decide)]; rfl
  rw [e1, e2]
  by_cases hn : 0 ≤ n
  · have e3 : IntKind.u64.wrap (n / 9223372036854775808) = ((0 : Nat) : Int) := by rw [wrap_u64i]; omega
    rw [e3, xor_u64 (by omega) (by omega), Nat.xor_zero]
    unfold Pk.zig; rw [if_pos hn]; congr 1; omega
  · have e3 : IntKind.u64.wrap (n / 9223372036854775808) = ((18446744073709551615 : Nat) : Int) := by rw [wrap_u64i]; omega
    rw [e3, xor_u64 (by omega) (by omega), xor_ones (by omega)]
    unfold Pk.zig; rw [if_neg hn]; congr 1; omega
theorem or128 : ∀ x, x < 256 → x ||| 128 = x % 128 + 128 := by decide +kernel
theorem and127 : ∀ x, x < 256 → x &&& (255 - 128) = x % 128 := by decide +kernel
theorem byteVals_snoc (l : List UInt8) (x : Nat) (h : x < 256) : byteVals l ++ [.int .u8 (x : Int)] = byteVals (l ++ [UInt8.ofNat x]) := by
  rw [byteVals_append]
  simp [byteVals]
  omega
theorem u8_group (u : Nat) : IntKind.u8.wrap ((BitVec.ofInt IntKind.u8.bits (IntKind.u8.wrap (u : Int)) ||| BitVec.ofInt IntKind.u8.bits 128).toNat : Int) = ((u % 128 + 128 : Nat) : Int) := by
  rw [wrap_u8 u, show (128 : Int) = ((128 : Nat) : Int) from rfl, or_u8 (by omega) (by omega), or128 _ (by omega)]
  congr 1; omega
theorem shr7 (u : Nat) : ((u : Int).fdiv (2 ^ 7)) = ((u / 128 : Nat) : Int) := by
  rw [Int.fdiv_eq_ediv_of_nonneg _ (by decide)]; omega
theorem int_spec {s : St} (wf : WF s) {κ : Option Nat} {v : Value} {l : List UInt8} (h : Sb s κ v l) (hl : l.length ≤ 150000000000000) {n : Int} (hn : Pk.inR n) :
    Cw Try.prog 58 [v, .int .i64 n] s fun r s' => K0 s s' ∧ Ob s.next s' r (l ++ Pk.encI n) := by
  have hel := Pk.encI_len hn
  refine Cw.enter Try.func58 rfl rfl ?_
  conv => whnf
  refine (clone_spec wf h (by omega)).mono ?_
  rintro v1 s1 ⟨k1, o1⟩
  conv => whnf
  refine Om.of _ rfl ?_
  conv => whnf
  refine Om.of _ rfl ?_
  conv => whnf
  refine Lp.of (α := Nat × Value × List UInt8) (fun x => [(5, x.2.1), (6, .int .u64 (x.1 : Int))])
    (fun x s' => Kp (fun j => s.next ≤ j) s s' ∧ Ob s.next s' x.2.1 x.2.2 ∧ x.2.2 ++ Pk.encU x.1 = l ++ Pk.encI n) (fun x => x.1) ?_ (Pk.zig n, v1, l)
    (.cons rfl (.cons (congrArg (fun x => some (Value.int .u64 x)) (zz hn)) (Sub.nil _))) ⟨k1.weak fun _ h => h.elim, o1, rfl⟩
  rintro ⟨u, w, l1⟩ s2 ⟨k2, o2, he⟩
  have hle : l1.length + (Pk.encU u).length = l.length + (Pk.encI n).length := by
    have := congrArg List.length he
    simpa using this
  have hup := Pk.encU_pos u
  simp only at o2
  conv => whnf
  refine ⟨fun hc => ?_, fun hc => ?_⟩
  · have hc : 128 ≤ u := by have := of_decide_eq_true hc; omega
    conv => whnf
    obtain ⟨v3, s3, e3, o3, k3⟩ := buildSlice1 (x := .int .u8 (IntKind.u8.wrap ((BitVec.ofInt IntKind.u8.bits (IntKind.u8.wrap (u : Int)) ||| BitVec.ofInt IntKind.u8.bits 128).toNat : Int))) B26 k2.wf rfl
    refine Om.of _ e3 ?_
    conv => whnf
    obtain ⟨v4, s4, e4, o4, k4⟩ := append_ownN B26 Try.underlying32 rfl k3.wf (Nat.le_trans k2.next k3.next) (o2.keep0 k3) (elems_sl o3.sl) rfl rfl (by omega)
    refine Om.of _ e4 ?_
    conv => whnf
    refine Om.of _ rfl ?_
    conv => whnf
    rw [u8_group, byteVals_snoc _ _ (by omega)] at o4
    refine ⟨(u / 128, v4, l1 ++ [UInt8.ofNat (u % 128 + 128)]), by simp only; omega, .cons rfl (.cons (congrArg (fun x => some (Value.int .u64 x)) (shr7 u)) (Sub.nil _)), ?_, Ob.of o4, ?_⟩
    · exact (k2.then0 k3).then k4
    · rw [Pk.encU_eq u, if_neg (by omega)] at he
      simpa using he
  · have hc : u < 128 := by have := of_decide_eq_false hc; omega
    conv => whnf
    obtain ⟨v3, s3, e3, o3, k3⟩ := buildSlice1 (x := .int .u8 (IntKind.u8.wrap (u : Int))) B26 k2.wf rfl
    refine Om.of _ e3 ?_
    conv => whnf
    obtain ⟨v4, s4, e4, o4, k4⟩ := append_ownN B26 Try.underlying32 rfl k3.wf (Nat.le_trans k2.next k3.next) (o2.keep0 k3) (elems_sl o3.sl) rfl rfl (by omega)
    refine Om.of _ e4 ?_
    conv => whnf
    refine (clip_spec o4).mono ?_
    rintro v5 s5 ⟨rfl, rfl⟩
    conv => whnf
    rw [wrap_u8, byteVals_snoc _ _ (by omega)] at o4
    rw [Pk.encU_eq u, if_pos hc] at he
    refine ⟨⟨((k2.then0 k3).then k4).fresh fun _ h => h, ?_⟩⟩
    rw [← he]
    have : u % 256 = u := by omega
    rw [this] at o4
    exact Ob.of o4
end Go.Ev
