/- Rolls: a mark's bytes, a number of bytes, bytes put together, a record as bytes. No condition. -/
import Derived.Test.YtfbdnmcncgbifaaT1
import Derived.Test.YtfbdnmcncgbifaaM1
import Derived.Test.YtfbdnmcncgbifaaK2
import Derived.Test.YtfbdnmcncgbifaaS5
noncomputable section
namespace Go.Ev
open Go.Proofs
set_option linter.unusedVariables false
set_option maxRecDepth 100000

def bytes8 (h : BitVec 64) : List UInt8 := (List.range 8).map fun i => UInt8.ofNat (h.toNat / 2 ^ (56 - 8 * i) % 256)
theorem bytes8_len (h : BitVec 64) : (bytes8 h).length = 8 := by simp [bytes8]
theorem shr_u64 {P : Program} {t : TypeId} {cst : Bool} {k : IntKind} {a c : Nat} (hc : c ≤ 64) : evBin P .shr t cst (.int .u64 (a : Int)) (.int k (c : Int)) = some (.int .u64 ((a / 2 ^ c : Nat) : Int)) := by
  show (match decide ((c : Int) < 0) with
    | true => none
    | false => some (Value.int .u64 ((a : Int).fdiv (2 ^ (min ((c : Int)).toNat IntKind.u64.bits))))) = _
  rw [decide_eq_false (by omega)]
  have e : min ((c : Int)).toNat IntKind.u64.bits = c := by
    show min ((c : Int)).toNat 64 = c
    omega
  simp only [e]
  have e2 : ((a : Int).fdiv (2 ^ c)) = ((a / 2 ^ c : Nat) : Int) := by
    rw [Int.fdiv_eq_ediv_of_nonneg _ (Int.pow_nonneg (by omega))]; push_cast; rfl
  rw [e2]
theorem mbytes_spec {s : St} (wf : WF s) (h : BitVec 64) : Cw Try.prog 48 [.int .u64 (h.toNat : Int)] s fun r s' => K0 s s' ∧ Ob s.next s' r (bytes8 h) := by
  have hp : Hp (fun _ => False) s [] [] s := Hp.start _ wf _ (by simp)
  refine Cw.enterS Try.func48 rfl rfl ?_
  refine Sm.seqW ?_
  conv => whnf
  refine Sm.seqW ?_
  conv => whnf
  refine Sm.seq ?_
  refine Sm.seqW ?_
  conv => whnf
  refine Sm.block ?_
  refine Sm.loop ?_
  refine Lp.ofS (α := Nat × Option Nat × Value) (fun x => [(0, .int .u64 (h.toNat : Int)), (3, x.2.2), (4, .int .i64 (56 - 8 * (x.1 : Int)))])
    (fun x s' => x.1 ≤ 8 ∧ Hp (fun _ => False) s [] [onA x.2.1 x.2.2 1 x.1 (byteVals ((bytes8 h).take x.1))] s') (fun x => 8 - x.1) ?_ (0, none, .slice none 0 0) (subK_ok (by refine ⟨rfl, rfl, rfl, trivial⟩))
    ⟨by omega, hp.push (.refl wf) ⟨.inl ⟨rfl, rfl, rfl, rfl⟩⟩ fun j hj => by cases hj⟩
  clear hp
  rintro ⟨i, κ, v⟩ s1 ⟨hi, hp⟩
  simp only at hi hp
  obtain ⟨a, c, rfl⟩ := (hp.slF .here).shape
  refine Sm.seq ?_
  refine Sm.ofW ?_
  conv => whnf
  refine Br.mk (fun hc => ?_) (fun hc => ?_)
  · have hc : i ≤ 7 := by have := of_decide_eq_true hc; omega
    conv => whnf
    refine Sm.seq (Sm.block ?_)
    refine Sm.ofW ?_
    conv => whnf
    have e1 : (56 - 8 * (i : Int)) = ((56 - 8 * i : Nat) : Int) := by omega
    refine Om.of _ ((congrArg (fun x => evBin Try.prog .shr 86 _ (.int .u64 (h.toNat : Int)) (.int .i64 x)) e1).trans (shr_u64 (by omega))) ?_
    conv => whnf
    refine hp.one B26 rfl ?_
    clear hp
    intro v2 b2 s2 hp k2
    conv => whnf
    have hx : Sl s2 (some b2) v2 1 1 [.int .u8 (IntKind.u8.wrap ((h.toNat / 2 ^ (56 - 8 * i) : Nat) : Int))] := Own.sl (hp.okF _ List.mem_cons_self)
    refine hp.app B26 Try.underlying32 rfl (by repeat (first | exact Rm.here | apply Rm.there)) (elems_sl hx) rfl rfl (by omega) ?_
    clear hx
    intro v3 κ3 s3 hp
    conv => whnf
    refine Sm.ofW ?_
    conv => whnf
    rw [wrap_u8, byteVals_snoc _ _ (by omega)] at hp
    have e2 : (bytes8 h).take i ++ [UInt8.ofNat (h.toNat / 2 ^ (56 - 8 * i) % 256)] = (bytes8 h).take (i + 1) := by
      rw [List.take_succ_eq_append_getElem (by rw [bytes8_len]; omega)]
      congr 2
      simp [bytes8]
    rw [e2] at hp
    have e3 : IntKind.i64.wrap (56 - 8 * (i : Int) - 8) = 56 - 8 * ((i + 1 : Nat) : Int) := by rw [wi64 (by omega) (by omega)]; omega
    exact ⟨(i + 1, κ3, v3), by (show 8 - (i + 1) < 8 - i); omega, subK_ok (by refine ⟨rfl, rfl, congrArg (fun x => some (Value.int .i64 x)) e3, trivial⟩), by (show i + 1 ≤ 8); omega, hp.pik (by repeat (first | exact Pik.nil | exact Pik.refl _ | exact Rm.here | apply Rm.there | apply Pik.cons | apply Pik.skip))⟩
  · have hc : i = 8 := by have := of_decide_eq_false hc; omega
    subst hc
    conv => whnf
    refine Sm.ofW ?_
    conv => whnf
    rw [List.take_of_length_le (by rw [bytes8_len]; omega)] at hp
    exact ⟨hp.fr, by have := hp.out .here; exact Ob.of this⟩
def num8 (l : List UInt8) : Nat := l.foldl (fun a c => (a * 256 + c.toNat) % 18446744073709551616) 0
theorem number_spec (s : St) {κ : Option Nat} {v : Value} {l : List UInt8} (hv : Sb s κ v l) (hl : l.length ≤ 100000) :
    Cw Try.prog 43 [v] s fun r s' => s' = s ∧ r = .int .i64 (IntKind.i64.wrap (num8 l : Int)) := by
  obtain ⟨a, c, rfl⟩ := hv.shape
  refine Cw.enterS Try.func43 rfl rfl ?_
  refine Sm.seqW ?_
  conv => whnf
  refine Sm.seqW ?_
  conv => whnf
  refine Sm.seq ?_
  refine Sm.seqW ?_
  conv => whnf
  refine Sm.block ?_
  refine Sm.loop ?_
  refine Lp.ofS (α := Nat) (fun i => [(3, .int .u64 (num8 (l.take i) : Int)), (6, .slice a l.length c), (7, .int .i64 (l.length : Int)), (8, .int .i64 (i : Int))])
    (fun i s' => s' = s ∧ i ≤ l.length) (fun i => l.length - i) ?_ 0 (subK_ok (by refine ⟨rfl, rfl, rfl, rfl, trivial⟩)) ⟨rfl, by omega⟩
  rintro i s1 ⟨rfl, hi⟩
  refine Sm.seqW ?_
  conv => whnf
  refine Sm.seqW ?_
  conv => whnf
  refine Br.mk (fun hc => ?_) (fun hc => ?_)
  · have hc : i < l.length := by have := of_decide_eq_true hc; omega
    conv => whnf
    refine Sm.seq (Sm.block ?_)
    refine Sm.seqW ?_
    conv => whnf
    obtain ⟨p, x, e1, e2, e3, _, rfl⟩ := index_sl B26 Try.underlying5 rfl hv .i64 hc
    obtain rfl : x = .int .u8 (l[i].toNat : Int) := by simp [byteVals, hc] at e2; exact e2.symm
    refine Om.of _ e1 ?_
    conv => whnf
    refine Om.of _ e3 ?_
    conv => whnf
    refine Sm.ofW ?_
    conv => whnf
    refine Om.of _ rfl ?_
    conv => whnf
    refine Sm.ofW ?_
    conv => whnf
    have h8 := l[i].toNat_lt
    have hn : num8 (l.take i) < 18446744073709551616 := by
      unfold num8
      cases i with
      | zero => show 0 < 18446744073709551616; decide
      | succ i =>
        rw [List.take_succ_eq_append_getElem (by omega), List.foldl_append]
        exact Nat.mod_lt _ (by decide)
    have e5 : IntKind.u64.wrap ((BitVec.ofInt IntKind.u64.bits (IntKind.u64.wrap ((num8 (l.take i) : Int) * 2 ^ min (Int.toNat 8) IntKind.u64.bits)) ||| BitVec.ofInt IntKind.u64.bits (IntKind.u64.wrap (l[i].toNat : Int))).toNat : Int) = (num8 (l.take (i + 1)) : Int) := by
      have m1 : min (Int.toNat 8) IntKind.u64.bits = 8 := by decide
      have e6 : IntKind.u64.wrap ((num8 (l.take i) : Int) * 2 ^ 8) = ((num8 (l.take i) * 256 % 18446744073709551616 : Nat) : Int) := by
        rw [show ((num8 (l.take i) : Int) * 2 ^ 8) = ((num8 (l.take i) * 256 : Nat) : Int) by push_cast; rfl, wrap_u64]
      have e7 : IntKind.u64.wrap (l[i].toNat : Int) = ((l[i].toNat : Nat) : Int) := by rw [wrap_u64]; omega
      rw [m1, e6, e7, or_u64 (by omega) (by omega)]
      have e8 : num8 (l.take (i + 1)) = (num8 (l.take i) * 256 + l[i].toNat) % 18446744073709551616 := by
        unfold num8
        rw [List.take_succ_eq_append_getElem hc, List.foldl_append]; rfl
      rw [e8]
      have e9 : num8 (l.take i) * 256 % 18446744073709551616 = (num8 (l.take i) % 72057594037927936) * 2 ^ 8 := by omega
      rw [e9, Nat.or_comm, or_shift (by omega)]
      congr 1
      omega
    have e6 : IntKind.i64.wrap ((i : Int) + 1) = ((i + 1 : Nat) : Int) := by rw [wi64 (by omega) (by omega)]; omega
    exact ⟨i + 1, by (show l.length - (i + 1) < l.length - i); omega, subK_ok (by refine ⟨congrArg (fun x => some (Value.int .u64 x)) e5, rfl, rfl, congrArg (fun x => some (Value.int .i64 x)) e6, trivial⟩), rfl, hc⟩
  · have hc : i = l.length := by have := of_decide_eq_false hc; omega
    subst hc
    rw [List.take_of_length_le (Nat.le_refl _)]
    conv => whnf
    refine Sm.ofW ?_
    conv => whnf
    exact ⟨rfl, rfl⟩
end Go.Ev
