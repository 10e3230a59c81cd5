/- What the functions of mark do. No condition. -/
import Derived.Test.YtfbdnmcncgbifaaH1
noncomputable section
namespace Go.Ev
open Go.Proofs
set_option linter.unusedVariables false
set_option maxRecDepth 100000

def Mk.step (h : BitVec 64) (c : UInt8) : BitVec 64 := (((h <<< 9) ||| (h >>> 55)) ^^^ BitVec.ofNat 64 c.toNat) * 11400714819323198485#64
def Mk.sum (h : BitVec 64) (l : List UInt8) : BitVec 64 := Mk.step (l.foldl Mk.step h) 255
theorem wrap_bv (n : Int) : IntKind.u64.wrap n = ((BitVec.ofInt 64 n).toNat : Int) := by
  rw [wrap_u64i, BitVec.toNat_ofInt]; omega
theorem bv_wrap (n : Int) : BitVec.ofInt 64 (IntKind.u64.wrap n) = BitVec.ofInt 64 n := by
  apply BitVec.eq_of_toNat_eq
  rw [wrap_u64i, BitVec.toNat_ofInt, BitVec.toNat_ofInt]; omega
theorem bv_toNat (x : BitVec 64) : BitVec.ofInt 64 (x.toNat : Int) = x := by simp
theorem Mk.step_eq (h : BitVec 64) (c : Nat) :
    IntKind.u64.wrap (IntKind.u64.wrap ((BitVec.ofInt IntKind.u64.bits (IntKind.u64.wrap ((BitVec.ofInt IntKind.u64.bits (IntKind.u64.wrap ((h.toNat : Int) * 2 ^ min (Int.toNat 9) IntKind.u64.bits)) ||| BitVec.ofInt IntKind.u64.bits ((h.toNat : Int).fdiv (2 ^ min (Int.toNat 55) IntKind.u64.bits))).toNat : Int)) ^^^
      BitVec.ofInt IntKind.u64.bits (IntKind.u64.wrap (c : Int))).toNat : Int) * 11400714819323198485) = (((((h <<< 9) ||| (h >>> 55)) ^^^ BitVec.ofNat 64 c) * 11400714819323198485#64).toNat : Int) := by
  have e : IntKind.u64.bits = 64 := rfl
  have m1 : min (Int.toNat 9) 64 = 9 := by decide
  have m2 : min (Int.toNat 55) 64 = 55 := by decide
  have h1 : BitVec.ofInt 64 ((h.toNat : Int) * 2 ^ 9) = h <<< 9 := by
    apply BitVec.eq_of_toNat_eq
    rw [BitVec.toNat_ofInt, BitVec.toNat_shiftLeft, Nat.shiftLeft_eq]
    omega
  have h2 : BitVec.ofInt 64 ((h.toNat : Int).fdiv (2 ^ 55)) = h >>> 55 := by
    apply BitVec.eq_of_toNat_eq
    have h1 := h.isLt
    have h2 : (h.toNat : Int).fdiv (2 ^ 55) = ((h.toNat / 2 ^ 55 : Nat) : Int) := by rw [Int.fdiv_eq_ediv_of_nonneg _ (by decide)]; omega
    rw [h2, BitVec.toNat_ofInt, BitVec.toNat_ushiftRight, Nat.shiftRight_eq_div_pow]
    omega
  have h3 : BitVec.ofInt 64 (c : Int) = BitVec.ofNat 64 c := by simp
  rw [e, m1, m2, wrap_bv, BitVec.ofInt_mul, bv_wrap, bv_toNat, bv_wrap, bv_toNat, bv_wrap, bv_wrap, h1, h2, h3]
  rfl
theorem step_spec (s : St) (h : BitVec 64) (c : UInt8) :
    Cw Try.prog 59 [.int .u64 (h.toNat : Int), .int .u8 (c.toNat : Int)] s fun r s' => s' = s ∧ r = .int .u64 ((Mk.step h c).toNat : Int) := by
  refine Cw.enter Try.func59 rfl rfl ?_
  conv => whnf
  refine Om.of _ rfl ?_
  conv => whnf
  refine Om.of _ rfl ?_
  conv => whnf
  exact ⟨⟨rfl, congrArg (Value.int .u64) (Mk.step_eq h c.toNat)⟩⟩
theorem sum_spec (s : St) {κ : Option Nat} {v : Value} {l : List UInt8} (hv : Sb s κ v l) (hl : l.length ≤ 281474976710656) (h : BitVec 64) :
    Cw Try.prog 49 [.int .u64 (h.toNat : Int), v] s fun r s' => s' = s ∧ r = .int .u64 ((Mk.sum h l).toNat : Int) := by
  obtain ⟨a, c, rfl⟩ := hv.shape
  refine Cw.enterS Try.func49 rfl rfl ?_
  refine Sm.seqW ?_
  conv => whnf
  refine Sm.seq ?_
  refine Sm.seqW ?_
  conv => whnf
  refine Sm.block ?_
  refine Sm.loop ?_
  refine Lp.ofS (α := Nat) (fun i => [(0, .int .u64 ((((l.take i).foldl Mk.step h).toNat : Nat) : Int)), (7, .slice a l.length c), (8, .int .i64 (l.length : Int)), (9, .int .i64 (i : Int))])
    (fun i s' => s' = s ∧ i ≤ l.length) (fun i => l.length - i) ?_ 0 (.cons rfl (.cons rfl (.cons rfl (.cons rfl (Sub.nil _))))) ⟨rfl, by omega⟩
  rintro i s1 ⟨rfl, hi⟩
  refine Sm.seqW ?_
  conv => whnf
  refine Sm.seqW ?_
  conv => whnf
  refine Br.mk (fun hc => ?_) (fun hc => ?_)
  rotate_left
  · have hc := of_decide_eq_false hc
    conv => whnf
    refine Sm.seqW ?_
    conv => whnf
    rw [List.take_of_length_le (by omega)]
    refine (step_spec s1 (l.foldl Mk.step h) 255).mono ?_
    rintro r s2 ⟨rfl, rfl⟩
    conv => whnf
    refine Sm.ofW ?_
    conv => whnf
    exact ⟨rfl, rfl⟩
  have hc : i < l.length := by have := of_decide_eq_true hc; omega
  conv => whnf
  refine Sm.seq (Sm.block ?_)
  refine Sm.seqW ?_
  conv => whnf
  obtain ⟨p, x, e1, e2, e3, _, rfl⟩ := index_sl B26 Try.underlying5 rfl hv .i64 hc
  obtain rfl : x = .int .u8 (l[i].toNat : Int) := by simp [byteVals, hc] at e2; exact e2.symm
  refine Om.of _ e1 ?_
  conv => whnf
  refine Om.of _ e3 ?_
  conv => whnf
  refine Sm.ofW ?_
  conv => whnf
  refine (step_spec s1 ((l.take i).foldl Mk.step h) l[i]).mono ?_
  rintro r s2 ⟨rfl, rfl⟩
  conv => whnf
  refine Sm.ofW ?_
  conv => whnf
  have e5 : Mk.step ((l.take i).foldl Mk.step h) l[i] = (l.take (i + 1)).foldl Mk.step h := by rw [List.take_succ_eq_append_getElem hc, List.foldl_append]; rfl
  have e6 : IntKind.i64.wrap ((i : Int) + 1) = ((i + 1 : Nat) : Int) := by rw [wrap_i64 (by omega) (by omega)]; omega
  rw [e5]
  exact ⟨i + 1, by (show l.length - (i + 1) < l.length - i); omega, .cons rfl (.cons rfl (.cons rfl (.cons (congrArg (fun x => some (Value.int .i64 x)) e6) (Sub.nil _)))), rfl, by omega⟩
end Go.Ev
