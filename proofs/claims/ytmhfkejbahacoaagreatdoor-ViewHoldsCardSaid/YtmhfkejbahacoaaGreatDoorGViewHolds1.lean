/- Several texts in one: what the law's text leans on, one behind the other. No condition but those that each theorem names. -/
import Derived.Test.YtmhfkejbahacoaaGreatDoorKViewHoldsS5
import Derived.Test.YtmhfkejbahacoaaGreatDoorChecked
/- Numbers of two words: sums, differences. No condition. -/
noncomputable section
namespace Go.Ev
open Go.Proofs
variable [Lk]
set_option linter.unusedSectionVars false
set_option linter.unusedVariables false
set_option maxRecDepth 100000

def inR (n : Int) : Prop := -9223372036854775808 ≤ n ∧ n < 9223372036854775808
theorem pick_spec (s : St) {n m : Int} (hn : inR n) (hm : 0 < m) (hm2 : m < 9223372036854775808) :
    Cw Tryz.prog 13 [.int .i64 n, .int .i64 m] s fun r s' => s' = s ∧ r = .int .i64 (n % m) := by
  refine Cw.enter Tryz.func13 rfl rfl ?_
  conv => whnf
  have e1 : evBin Tryz.prog .rem 3 (isConst (.tmp 5) || isConst (.tmp 6)) (.int .i64 n) (.int .i64 m) = some (.int .i64 (n.tmod m)) := by
    show (match decide (m = 0) with
      | true => none
      | false => some (Value.int .i64 (n.tmod m))) = _
    rw [decide_eq_false (by omega)]
  refine Om.of _ e1 ?_
  conv => whnf
  have ht := Int.tmod_eq_emod (a := n) (b := m)
  have h1 := Int.emod_nonneg n (show m ≠ 0 by omega)
  have h2 := Int.emod_lt_of_pos n hm
  have habs : (m.natAbs : Int) = m := by omega
  have hcases : (n.tmod m = n % m) ∨ (n.tmod m = n % m - m ∧ n.tmod m < 0) := by
    rw [ht]
    split
    · left; omega
    · right; omega
  refine ⟨fun hc => ?_, fun hc => ?_⟩
  · have hc := of_decide_eq_true hc
    conv => whnf
    refine ⟨⟨rfl, ?_⟩⟩
    have : IntKind.i64.wrap (n.tmod m + m) = n % m := by
      rw [wrap_i64 (by omega) (by omega)]; omega
    exact congrArg (Value.int .i64) this
  · have hc := of_decide_eq_false hc
    conv => whnf
    refine ⟨⟨rfl, ?_⟩⟩
    have : n.tmod m = n % m := by omega
    exact congrArg (Value.int .i64) this
abbrev w64 : Nat := 18446744073709551616
theorem bit63 {n : Nat} (h : n < w64) : n.testBit 63 = decide (9223372036854775808 ≤ n) := by
  rw [Nat.testBit_eq_decide_div_mod_eq]
  apply decide_eq_decide.2
  have : (2 : Nat) ^ 63 = 9223372036854775808 := by decide
  rw [this]
  simp only [w64] at h
  omega
theorem shr63 {n : Nat} (h : n < w64) : n / 9223372036854775808 = if n.testBit 63 = true then 1 else 0 := by
  rw [bit63 h]
  simp only [w64] at h
  split <;> rename_i g <;> simp at g <;> omega
theorem andNot_u64 {a b : Nat} (ha : a < w64) (hb : b < w64) :
    ∃ x : Nat, x < w64 ∧ IntKind.u64.wrap ((BitVec.ofInt IntKind.u64.bits (a : Int) &&& ~~~ BitVec.ofInt IntKind.u64.bits (b : Int)).toNat : Int) = (x : Int) ∧ x.testBit 63 = (a.testBit 63 && !b.testBit 63) := by
  have e : IntKind.u64.bits = 64 := rfl
  rw [e, bv_nat, bv_nat]
  refine ⟨(BitVec.ofNat 64 a &&& ~~~ BitVec.ofNat 64 b).toNat, (BitVec.ofNat 64 a &&& ~~~ BitVec.ofNat 64 b).isLt, ?_, ?_⟩
  · rw [wrap_u64, Nat.mod_eq_of_lt (BitVec.ofNat 64 a &&& ~~~ BitVec.ofNat 64 b).isLt]
  · rw [BitVec.toNat_and, BitVec.toNat_not, BitVec.toNat_ofNat, BitVec.toNat_ofNat, Nat.mod_eq_of_lt (show a < 2 ^ 64 from ha), Nat.mod_eq_of_lt (show b < 2 ^ 64 from hb), Nat.testBit_and]
    have h1 : 2 ^ 64 - 1 - b < w64 := by simp only [w64] at *; omega
    rw [bit63 h1, bit63 hb]
    congr 1
    simp only [w64] at *
    by_cases h : 9223372036854775808 ≤ b <;> simp [h] <;> omega
theorem and_bit {a b : Nat} : (a &&& b).testBit 63 = (a.testBit 63 && b.testBit 63) := Nat.testBit_and ..
theorem or_bit {a b : Nat} : (a ||| b).testBit 63 = (a.testBit 63 || b.testBit 63) := Nat.testBit_or ..
theorem and_lt64 {a b : Nat} (ha : a < w64) : a &&& b < w64 := Nat.lt_of_le_of_lt Nat.and_le_left ha
theorem or_lt64 {a b : Nat} (ha : a < w64) (hb : b < w64) : a ||| b < w64 := Nat.or_lt_two_pow (n := 64) ha hb
theorem fdiv63 (n : Nat) : ((n : Int)).fdiv (2 ^ 63) = ((n / 9223372036854775808 : Nat) : Int) := by
  rw [Int.fdiv_eq_ediv_of_nonneg _ (by decide)]; exact (Int.natCast_ediv n 9223372036854775808).symm
theorem carry_eq {a b c : Nat} (ha : a < w64) (hb : b < w64) (hc : c ≤ 1) :
    (IntKind.u64.wrap ((BitVec.ofInt IntKind.u64.bits (IntKind.u64.wrap ((BitVec.ofInt IntKind.u64.bits (a : Int) &&& BitVec.ofInt IntKind.u64.bits (b : Int)).toNat : Int)) |||
      BitVec.ofInt IntKind.u64.bits (IntKind.u64.wrap ((BitVec.ofInt IntKind.u64.bits (IntKind.u64.wrap ((BitVec.ofInt IntKind.u64.bits (a : Int) ||| BitVec.ofInt IntKind.u64.bits (b : Int)).toNat : Int)) &&& ~~~ BitVec.ofInt IntKind.u64.bits (((a + b + c) % w64 : Nat) : Int)).toNat : Int))).toNat : Int)).fdiv (2 ^ 63) = (((a + b + c) / w64 : Nat) : Int) := by
  have hs : (a + b + c) % w64 < w64 := Nat.mod_lt _ (by decide)
  rw [and_u64 ha hb, or_u64 ha hb]
  obtain ⟨x, x1, x2, x3⟩ := andNot_u64 (or_lt64 ha hb) hs
  rw [x2, or_u64 (and_lt64 ha) x1, fdiv63, shr63 (or_lt64 (and_lt64 ha) x1), or_bit, and_bit, x3, or_bit, bit63 ha, bit63 hb, bit63 hs]
  congr 1
  simp only [w64] at *
  by_cases h1 : 9223372036854775808 ≤ a <;> by_cases h2 : 9223372036854775808 ≤ b <;> by_cases h3 : 9223372036854775808 ≤ (a + b + c) % 18446744073709551616 <;> simp [h1, h2, h3] <;> omega
theorem borrow_eq {a b c : Nat} (ha : a < w64) (hb : b < w64) (hc : c ≤ 1) :
    (IntKind.u64.wrap ((BitVec.ofInt IntKind.u64.bits (IntKind.u64.wrap ((BitVec.ofInt IntKind.u64.bits (IntKind.u64.wrap ((BitVec.ofInt IntKind.u64.bits (18446744073709551615 : Int) ^^^ BitVec.ofInt IntKind.u64.bits (a : Int)).toNat : Int)) &&& BitVec.ofInt IntKind.u64.bits (b : Int)).toNat : Int)) |||
      BitVec.ofInt IntKind.u64.bits (IntKind.u64.wrap ((BitVec.ofInt IntKind.u64.bits (IntKind.u64.wrap ((BitVec.ofInt IntKind.u64.bits (IntKind.u64.wrap ((BitVec.ofInt IntKind.u64.bits (18446744073709551615 : Int) ^^^ BitVec.ofInt IntKind.u64.bits (a : Int)).toNat : Int)) ||| BitVec.ofInt IntKind.u64.bits (b : Int)).toNat : Int)) &&& BitVec.ofInt IntKind.u64.bits (((a + w64 + w64 - b - c) % w64 : Nat) : Int)).toNat : Int))).toNat : Int)).fdiv (2 ^ 63) = ((if a < b + c then 1 else 0 : Nat) : Int) := by
  have hs : (a + w64 + w64 - b - c) % w64 < w64 := Nat.mod_lt _ (by decide)
  have hx : IntKind.u64.wrap ((BitVec.ofInt IntKind.u64.bits (18446744073709551615 : Int) ^^^ BitVec.ofInt IntKind.u64.bits (a : Int)).toNat : Int) = ((18446744073709551615 - a : Nat) : Int) := by
    have := xor_u64 (a := 18446744073709551615) (b := a) (by decide) ha
    rw [Nat.xor_comm, xor_ones ha] at this
    exact this
  have hn : 18446744073709551615 - a < w64 := by simp only [w64]; omega
  rw [hx, and_u64 hn hb, or_u64 hn hb, and_u64 (or_lt64 hn hb) hs, or_u64 (and_lt64 hn) (and_lt64 (or_lt64 hn hb)), fdiv63, shr63 (or_lt64 (and_lt64 hn) (and_lt64 (or_lt64 hn hb))), or_bit, and_bit, and_bit, or_bit, bit63 hn, bit63 hb, bit63 hs]
  congr 1
  simp only [w64] at *
  by_cases h1 : 9223372036854775808 ≤ 18446744073709551615 - a <;> by_cases h2 : 9223372036854775808 ≤ b <;> by_cases h3 : 9223372036854775808 ≤ (a + 18446744073709551616 + 18446744073709551616 - b - c) % 18446744073709551616 <;> simp [h1, h2, h3] <;> omega
theorem lplus_spec (s : St) {a b c : Nat} (ha : a < w64) (hb : b < w64) (hc : c ≤ 1) :
    Cw Tryz.prog 122 [.int .u64 (a : Int), .int .u64 (b : Int), .int .u64 (c : Int)] s fun r s' => s' = s ∧ r = .tuple #[.int .u64 (((a + b + c) % w64 : Nat) : Int), .int .u64 (((a + b + c) / w64 : Nat) : Int)] := by
  have e1 : IntKind.u64.wrap (IntKind.u64.wrap ((a : Int) + (b : Int)) + (c : Int)) = (((a + b + c) % w64 : Nat) : Int) := by
    rw [wrap_u64i, wrap_u64i]; simp only [w64] at *; omega
  have e2 := carry_eq ha hb hc
  refine Cw.enter Tryz.func122 rfl rfl ?_
  conv => whnf
  rw [e1]
  refine Om.of _ (congrArg (fun x => some (Value.int .u64 x)) e2) ?_
  conv => whnf
  exact ⟨rfl, rfl⟩
theorem lless_spec (s : St) {a b c : Nat} (ha : a < w64) (hb : b < w64) (hc : c ≤ 1) :
    Cw Tryz.prog 158 [.int .u64 (a : Int), .int .u64 (b : Int), .int .u64 (c : Int)] s fun r s' => s' = s ∧ r = .tuple #[.int .u64 (((a + w64 + w64 - b - c) % w64 : Nat) : Int), .int .u64 ((if a < b + c then 1 else 0 : Nat) : Int)] := by
  have e1 : IntKind.u64.wrap (IntKind.u64.wrap ((a : Int) - (b : Int)) - (c : Int)) = (((a + w64 + w64 - b - c) % w64 : Nat) : Int) := by
    rw [wrap_u64i, wrap_u64i]; simp only [w64] at *; omega
  have e2 := borrow_eq ha hb hc
  refine Cw.enter Tryz.func158 rfl rfl ?_
  conv => whnf
  rw [e1]
  refine Om.of _ (congrArg (fun x => some (Value.int .u64 x)) e2) ?_
  conv => whnf
  exact ⟨rfl, rfl⟩
/-- Two words. -/
def A2 (a b : Nat) : Value := .agg #[.int .u64 (a : Int), .int .u64 (b : Int)]
def C2 (a b : Nat) : List Value := [.int .u64 (a : Int), .int .u64 (b : Int)]
/-- A number, as two words. -/
abbrev w128 : Nat := 340282366920938463463374607431768211456
def W2 (n : Nat) : Value := A2 (n % w64) (n / w64)
theorem w2_lt {n : Nat} (h : n < w128) : n % w64 < w64 ∧ n / w64 < w64 := by simp only [w64, w128] at *; omega
theorem lAdd_spec {z : St} (wf : WF z) {a b : Nat} (ha : a < w128) (hb : b < w128) :
    Cw Tryz.prog 77 [W2 a, W2 b] z fun r s' => K0 z s' ∧ r = if a + b < w128 then .tuple #[W2 (a + b), .bool true] else .tuple #[W2 0, .bool false] := by
  have hp : Hp (fun _ => False) z [] [] z := Hp.start _ wf _ (by simp)
  obtain ⟨a1, a2⟩ := w2_lt ha
  obtain ⟨b1, b2⟩ := w2_lt hb
  have hsum : (a % w64 + b % w64 + 0) % w64 = (a + b) % w64 ∧ (a / w64 + b / w64 + (a % w64 + b % w64 + 0) / w64) = (a + b) / w64 ∧ (a % w64 + b % w64 + 0) / w64 ≤ 1 := by simp only [w64, w128] at *; omega
  unfold W2
  generalize a % w64 = al at *
  generalize a / w64 = ah at *
  generalize b % w64 = bl at *
  generalize b / w64 = bh at *
  refine Cw.enterS Tryz.func77 rfl rfl ?_
  refine Sm.seqW ?_
  conv => whnf
  refine hp.var (cs := C2 al ah) (e := 1) rfl rfl ?_
  clear hp
  intro p1 s hp _
  conv => whnf
  refine hp.var (cs := C2 bl bh) (e := 1) rfl rfl ?_
  clear hp
  intro p2 s hp _
  conv => whnf
  refine hp.alloc (cs := C2 0 0) (e := 1) rfl rfl rfl rfl rfl ?_
  clear hp
  intro p3 s hp _
  conv => whnf
  refine Sm.live [2, 3, 4, 5] ?_
  conv => whnf
  refine Sm.seqW ?_
  conv => whnf
  (refine Om.of _ rfl ?_; conv => whnf)
  (refine hp.load (by repeat (first | exact Has.here | apply Has.there | (apply Has.swap; repeat (first | exact HasR.here | apply HasR.there)))) (by rfl) rfl rfl rfl ?_; conv => whnf)
  (refine Om.of _ rfl ?_; conv => whnf)
  (refine hp.load (by repeat (first | exact Has.here | apply Has.there | (apply Has.swap; repeat (first | exact HasR.here | apply HasR.there)))) (by rfl) rfl rfl rfl ?_; conv => whnf)
  refine (lplus_spec _ (c := 0) a1 b1 (by decide)).mono ?_
  rintro _ _ ⟨rfl, rfl⟩
  conv => whnf
  refine Sm.live [2, 3, 4, 5, 6, 7] ?_
  conv => whnf
  refine Sm.seqW ?_
  conv => whnf
  (refine Om.of _ rfl ?_; conv => whnf)
  (refine hp.load (by repeat (first | exact Has.here | apply Has.there | (apply Has.swap; repeat (first | exact HasR.here | apply HasR.there)))) (by rfl) rfl rfl rfl ?_; conv => whnf)
  (refine Om.of _ rfl ?_; conv => whnf)
  (refine hp.load (by repeat (first | exact Has.here | apply Has.there | (apply Has.swap; repeat (first | exact HasR.here | apply HasR.there)))) (by rfl) rfl rfl rfl ?_; conv => whnf)
  refine (lplus_spec _ a2 b2 hsum.2.2).mono ?_
  rintro _ _ ⟨rfl, rfl⟩
  conv => whnf
  rw [hsum.1, hsum.2.1]
  have hq : ((a + b) / w64 / w64 = 0 ↔ a + b < w128) ∧ (a + b < w128 → (a + b) / w64 % w64 = (a + b) / w64) := by simp only [w64, w128] at *; omega
  refine Sm.live [4, 5, 6, 8, 9] ?_
  conv => whnf
  refine Sm.seq ?_
  refine Sm.seqW ?_
  conv => whnf
  refine Sm.ofW ?_
  conv => whnf
  by_cases hlt : a + b < w128
  · rw [if_pos hlt, hq.2 hlt]
    refine Br.no (decide_eq_false (by have := hq.1.2 hlt; omega)) ?_
    conv => whnf
    refine Sm.seqW ?_
    conv => whnf
    refine hp.storeW (vs := C2 ((a + b) % w64) ((a + b) / w64)) rfl (by repeat (first | exact Rm.here | apply Rm.there)) (by rfl) rfl rfl rfl ?_
    clear hp
    intro s hp _
    conv => whnf
    refine Sm.ofW ?_
    conv => whnf
    refine hp.loadA (l := C2 ((a + b) % w64) ((a + b) / w64)) (by repeat (first | exact Has.here | apply Has.there | (apply Has.swap; repeat (first | exact HasR.here | apply HasR.there)))) rfl (by rfl) rfl rfl ?_
    conv => whnf
    exact ⟨hp.fr, rfl⟩
  · rw [if_neg hlt]
    refine Br.yes (decide_eq_true (by
      have h1 : 0 < (a + b) / w64 / w64 := Nat.pos_of_ne_zero fun h => hlt (hq.1.1 h)
      exact Int.natCast_pos.2 h1)) ?_
    conv => whnf
    refine hp.storeW (vs := C2 0 0) rfl (by repeat (first | exact Rm.here | apply Rm.there)) (by rfl) rfl rfl rfl ?_
    clear hp
    intro s hp _
    conv => whnf
    refine hp.loadA (l := C2 0 0) (by repeat (first | exact Has.here | apply Has.there | (apply Has.swap; repeat (first | exact HasR.here | apply HasR.there)))) rfl (by rfl) rfl rfl ?_
    conv => whnf
    exact ⟨hp.fr, rfl⟩
end Go.Ev
end

/- Numbers of two words, further: Sub, Of, Short, Wide, Cmp. No condition. -/
noncomputable section
namespace Go.Ev
open Go.Proofs
variable [Lk]
set_option linter.unusedSectionVars false
set_option linter.unusedVariables false
set_option maxRecDepth 100000

def C4 (a b c d : Nat) : List Value := [.int .u64 (a : Int), .int .u64 (b : Int), .int .u64 (c : Int), .int .u64 (d : Int)]
def A4 (a b c d : Nat) : Value := .agg #[.int .u64 (a : Int), .int .u64 (b : Int), .int .u64 (c : Int), .int .u64 (d : Int)]
abbrev w192 : Nat := 6277101735386680763835789423207666416102355444464034512896
abbrev w256 : Nat := 115792089237316195423570985008687907853269984665640564039457584007913129639936
/-- A number, as four words. -/
def W4 (n : Nat) : Value := A4 (n % w64) (n / w64 % w64) (n / w128 % w64) (n / w192)
theorem lOf_spec {z : St} (wf : WF z) {a : Nat} (ha : a < w64) :
    Cw Tryz.prog 74 [.int .u64 (a : Int)] z fun r s' => K0 z s' ∧ r = W2 a := by
  have hp : Hp (fun _ => False) z [] [] z := Hp.start _ wf _ (by simp)
  have h1 : a % w64 = a := Nat.mod_eq_of_lt ha
  have h2 : a / w64 = 0 := Nat.div_eq_of_lt ha
  unfold W2
  rw [h1, h2]
  refine Cw.enterS Tryz.func74 rfl rfl ?_
  refine Sm.seqW ?_
  conv => whnf
  refine hp.alloc (cs := C2 0 0) (e := 1) rfl rfl rfl rfl rfl ?_
  clear hp
  intro p3 s hp _
  conv => whnf
  refine Sm.seqW ?_
  conv => whnf
  refine hp.storeW (vs := C2 a 0) rfl (by repeat (first | exact Rm.here | apply Rm.there)) (by rfl) rfl rfl rfl ?_
  clear hp
  intro s hp _
  conv => whnf
  refine Sm.ofW ?_
  conv => whnf
  refine hp.loadA (l := C2 a 0) (by repeat (first | exact Has.here | apply Has.there | (apply Has.swap; repeat (first | exact HasR.here | apply HasR.there)))) rfl (by rfl) rfl rfl ?_
  conv => whnf
  exact ⟨hp.fr, rfl⟩
def shortR (n : Nat) : Value := if n < w128 then .tuple #[W2 n, .bool true] else .tuple #[W2 0, .bool false]
theorem lShort_spec {z : St} (wf : WF z) {n : Nat} (hn : n < w256) :
    Cw Tryz.prog 75 [W4 n] z fun r s' => K0 z s' ∧ r = shortR n := by
  have hp : Hp (fun _ => False) z [] [] z := Hp.start _ wf _ (by simp)
  have hlt : n < w128 ↔ (n / w128 % w64 = 0 ∧ n / w192 = 0) := by simp only [w64, w128, w192, w256] at *; omega
  have h1 : n < w128 → n / w64 % w64 = n / w64 := fun h => by simp only [w64, w128] at *; omega
  unfold W4 shortR
  generalize hc : n / w128 % w64 = c at hlt
  generalize hd : n / w192 = d at hlt
  refine Cw.enterS Tryz.func75 rfl rfl ?_
  refine Sm.seqW ?_
  conv => whnf
  refine hp.var (cs := C4 (n % w64) (n / w64 % w64) c d) (e := 1) rfl rfl ?_
  clear hp
  intro p1 s hp _
  conv => whnf
  refine hp.alloc (cs := C2 0 0) (e := 1) rfl rfl rfl rfl rfl ?_
  clear hp
  intro p3 s hp _
  conv => whnf
  refine Sm.live [1, 2, 3] ?_
  conv => whnf
  refine Sm.seq ?_
  refine Sm.seqW ?_
  conv => whnf
  (refine Om.of _ rfl ?_; conv => whnf)
  (refine hp.load (by repeat (first | exact Has.here | apply Has.there | (apply Has.swap; repeat (first | exact HasR.here | apply HasR.there)))) (by rfl) rfl rfl rfl ?_; conv => whnf)
  have no : ∀ x : Nat, x ≠ 0 → ((x : Int) != 0) = true := fun x h => bne_iff_ne.2 (by omega)
  have ye : ∀ x : Nat, x = 0 → ((x : Int) != 0) = false := fun x h => by subst h; rfl
  by_cases h : n < w128
  · obtain ⟨h2, h3⟩ := hlt.1 h
    rw [if_pos h]
    rw [h1 h] at hp
    refine Br.no (ye _ h2) ?_
    conv => whnf
    (refine Om.of _ rfl ?_; conv => whnf)
    refine Br.no (ye _ h2) ?_
    conv => whnf
    (refine hp.load (by repeat (first | exact Has.here | apply Has.there | (apply Has.swap; repeat (first | exact HasR.here | apply HasR.there)))) (by rfl) rfl rfl rfl ?_; conv => whnf)
    refine Br.no (ye _ h2) ?_
    conv => whnf
    refine Br.no (ye _ h2) ?_
    conv => whnf
    refine Sm.ofW ?_
    conv => whnf
    refine Br.no (ye _ h3) ?_
    conv => whnf
    refine Sm.seqW ?_
    conv => whnf
    (refine Om.of _ rfl ?_; conv => whnf)
    (refine hp.load (by repeat (first | exact Has.here | apply Has.there | (apply Has.swap; repeat (first | exact HasR.here | apply HasR.there)))) (by rfl) rfl rfl rfl ?_; conv => whnf)
    (refine Om.of _ rfl ?_; conv => whnf)
    (refine hp.load (by repeat (first | exact Has.here | apply Has.there | (apply Has.swap; repeat (first | exact HasR.here | apply HasR.there)))) (by rfl) rfl rfl rfl ?_; conv => whnf)
    refine hp.storeW (vs := C2 (n % w64) (n / w64)) rfl (by repeat (first | exact Rm.here | apply Rm.there)) (by rfl) rfl rfl rfl ?_
    clear hp
    intro s hp _
    conv => whnf
    refine Sm.ofW ?_
    conv => whnf
    refine hp.loadA (l := C2 (n % w64) (n / w64)) (by repeat (first | exact Has.here | apply Has.there | (apply Has.swap; repeat (first | exact HasR.here | apply HasR.there)))) rfl (by rfl) rfl rfl ?_
    conv => whnf
    exact ⟨hp.fr, rfl⟩
  · rw [if_neg h]
    have fin : ∀ s', Hp (fun _ => False) z [] [blkA p3 p3 (C2 0 0) 1, blkA p1 p1 (C4 (n % w64) (n / w64 % w64) c d) 1] s' → True := fun _ _ => trivial
    by_cases h2 : c = 0
    · have h3 : d ≠ 0 := fun h3 => h (hlt.2 ⟨h2, h3⟩)
      refine Br.no (ye _ h2) ?_
      conv => whnf
      (refine Om.of _ rfl ?_; conv => whnf)
      refine Br.no (ye _ h2) ?_
      conv => whnf
      (refine hp.load (by repeat (first | exact Has.here | apply Has.there | (apply Has.swap; repeat (first | exact HasR.here | apply HasR.there)))) (by rfl) rfl rfl rfl ?_; conv => whnf)
      refine Br.no (ye _ h2) ?_
      conv => whnf
      refine Br.no (ye _ h2) ?_
      conv => whnf
      refine Sm.ofW ?_
      conv => whnf
      refine Br.yes (no _ h3) ?_
      conv => whnf
      refine hp.storeW (vs := C2 0 0) rfl (by repeat (first | exact Rm.here | apply Rm.there)) (by rfl) rfl rfl rfl ?_
      clear hp
      intro s hp _
      conv => whnf
      refine hp.loadA (l := C2 0 0) (by repeat (first | exact Has.here | apply Has.there | (apply Has.swap; repeat (first | exact HasR.here | apply HasR.there)))) rfl (by rfl) rfl rfl ?_
      conv => whnf
      exact ⟨hp.fr, rfl⟩
    · refine Br.yes (no _ h2) ?_
      conv => whnf
      refine Br.yes (no _ h2) ?_
      conv => whnf
      refine Br.yes (no _ h2) ?_
      conv => whnf
      refine Br.yes (no _ h2) ?_
      conv => whnf
      refine Sm.ofW ?_
      conv => whnf
      refine Br.yes rfl ?_
      conv => whnf
      refine hp.storeW (vs := C2 0 0) rfl (by repeat (first | exact Rm.here | apply Rm.there)) (by rfl) rfl rfl rfl ?_
      clear hp
      intro s hp _
      conv => whnf
      refine hp.loadA (l := C2 0 0) (by repeat (first | exact Has.here | apply Has.there | (apply Has.swap; repeat (first | exact HasR.here | apply HasR.there)))) rfl (by rfl) rfl rfl ?_
      conv => whnf
      exact ⟨hp.fr, rfl⟩
def subR (a b : Nat) : Value := if b ≤ a then .tuple #[W2 (a - b), .bool true] else .tuple #[W2 0, .bool false]
theorem lSub_spec {z : St} (wf : WF z) {a b : Nat} (ha : a < w128) (hb : b < w128) :
    Cw Tryz.prog 116 [W2 a, W2 b] z fun r s' => K0 z s' ∧ r = subR a b := by
  have hp : Hp (fun _ => False) z [] [] z := Hp.start _ wf _ (by simp)
  obtain ⟨a1, a2⟩ := w2_lt ha
  obtain ⟨b1, b2⟩ := w2_lt hb
  have hle : (b ≤ a ↔ ¬ (a / w64 < b / w64 + if a % w64 < b % w64 + 0 then 1 else 0)) ∧ (b ≤ a → (a % w64 + w64 + w64 - b % w64 - 0) % w64 = (a - b) % w64 ∧ (a / w64 + w64 + w64 - b / w64 - if a % w64 < b % w64 + 0 then 1 else 0) % w64 = (a - b) / w64) := by
    simp only [w64, w128] at *
    split <;> omega
  have hbo : (if a % w64 < b % w64 + 0 then 1 else 0) ≤ 1 := by split <;> omega
  unfold W2 subR
  generalize a % w64 = al at *
  generalize a / w64 = ah at *
  generalize b % w64 = bl at *
  generalize b / w64 = bh at *
  generalize hbr : (if al < bl + 0 then 1 else 0) = br at hle hbo
  refine Cw.enterS Tryz.func116 rfl rfl ?_
  refine Sm.seqW ?_
  conv => whnf
  refine hp.var (cs := C2 al ah) (e := 1) rfl rfl ?_
  clear hp
  intro p1 s hp _
  conv => whnf
  refine hp.var (cs := C2 bl bh) (e := 1) rfl rfl ?_
  clear hp
  intro p2 s hp _
  conv => whnf
  refine hp.alloc (cs := C2 0 0) (e := 1) rfl rfl rfl rfl rfl ?_
  clear hp
  intro p3 s hp _
  conv => whnf
  refine Sm.live [2, 3, 4, 5] ?_
  conv => whnf
  refine Sm.seqW ?_
  conv => whnf
  (refine Om.of _ rfl ?_; conv => whnf)
  (refine hp.load (by repeat (first | exact Has.here | apply Has.there | (apply Has.swap; repeat (first | exact HasR.here | apply HasR.there)))) (by rfl) rfl rfl rfl ?_; conv => whnf)
  (refine Om.of _ rfl ?_; conv => whnf)
  (refine hp.load (by repeat (first | exact Has.here | apply Has.there | (apply Has.swap; repeat (first | exact HasR.here | apply HasR.there)))) (by rfl) rfl rfl rfl ?_; conv => whnf)
  refine (lless_spec _ (c := 0) a1 b1 (by decide)).mono ?_
  rintro _ _ ⟨rfl, rfl⟩
  rw [hbr]
  conv => whnf
  refine Sm.live [2, 3, 4, 5, 6, 7] ?_
  conv => whnf
  refine Sm.seqW ?_
  conv => whnf
  (refine Om.of _ rfl ?_; conv => whnf)
  (refine hp.load (by repeat (first | exact Has.here | apply Has.there | (apply Has.swap; repeat (first | exact HasR.here | apply HasR.there)))) (by rfl) rfl rfl rfl ?_; conv => whnf)
  (refine Om.of _ rfl ?_; conv => whnf)
  (refine hp.load (by repeat (first | exact Has.here | apply Has.there | (apply Has.swap; repeat (first | exact HasR.here | apply HasR.there)))) (by rfl) rfl rfl rfl ?_; conv => whnf)
  refine (lless_spec _ a2 b2 hbo).mono ?_
  rintro _ _ ⟨rfl, rfl⟩
  conv => whnf
  refine Sm.live [4, 5, 6, 8, 9] ?_
  conv => whnf
  refine Sm.seq ?_
  refine Sm.seqW ?_
  conv => whnf
  refine Sm.ofW ?_
  conv => whnf
  by_cases hlt : b ≤ a
  · rw [if_pos hlt, if_neg (hle.1.1 hlt), (hle.2 hlt).1, (hle.2 hlt).2]
    refine Br.no rfl ?_
    conv => whnf
    refine Sm.seqW ?_
    conv => whnf
    refine hp.storeW (vs := C2 ((a - b) % w64) ((a - b) / w64)) rfl (by repeat (first | exact Rm.here | apply Rm.there)) (by rfl) rfl rfl rfl ?_
    clear hp
    intro s hp _
    conv => whnf
    refine Sm.ofW ?_
    conv => whnf
    refine hp.loadA (l := C2 ((a - b) % w64) ((a - b) / w64)) (by repeat (first | exact Has.here | apply Has.there | (apply Has.swap; repeat (first | exact HasR.here | apply HasR.there)))) rfl (by rfl) rfl rfl ?_
    conv => whnf
    exact ⟨hp.fr, rfl⟩
  · have hlt2 : ah < bh + br := Decidable.byContradiction fun h => hlt (hle.1.2 h)
    rw [if_neg hlt, if_pos hlt2]
    refine Br.yes rfl ?_
    conv => whnf
    refine hp.storeW (vs := C2 0 0) rfl (by repeat (first | exact Rm.here | apply Rm.there)) (by rfl) rfl rfl rfl ?_
    clear hp
    intro s hp _
    conv => whnf
    refine hp.loadA (l := C2 0 0) (by repeat (first | exact Has.here | apply Has.there | (apply Has.swap; repeat (first | exact HasR.here | apply HasR.there)))) rfl (by rfl) rfl rfl ?_
    conv => whnf
    exact ⟨hp.fr, rfl⟩
end Go.Ev
end

/- Numbers of two words, further: Cmp, halves. No condition. -/
noncomputable section
namespace Go.Ev
open Go.Proofs
variable [Lk]
set_option linter.unusedSectionVars false
set_option linter.unusedVariables false
set_option maxRecDepth 100000

def cmpI (a b : Nat) : Int := if a < b then -1 else if a = b then 0 else 1
def kk : Nat → Int
  | 0 => 1
  | 1 => 0
  | _ => -1
theorem lCmp_spec {z : St} (wf : WF z) {a b : Nat} (ha : a < w128) (hb : b < w128) :
    Cw Tryz.prog 123 [W2 a, W2 b] z fun r s' => K0 z s' ∧ r = .int .i64 (cmpI a b) := by
  have hp : Hp (fun _ => False) z [] [] z := Hp.start _ wf _ (by simp)
  have c1 : a / w64 < b / w64 → cmpI a b = -1 := fun h => by unfold cmpI; rw [if_pos (by simp only [w64] at *; omega)]
  have c2 : b / w64 < a / w64 → cmpI a b = 1 := fun h => by unfold cmpI; rw [if_neg (by simp only [w64] at *; omega), if_neg (by simp only [w64] at *; omega)]
  have c3 : a / w64 = b / w64 → a % w64 < b % w64 → cmpI a b = -1 := fun h g => by unfold cmpI; rw [if_pos (by simp only [w64] at *; omega)]
  have c4 : a / w64 = b / w64 → b % w64 < a % w64 → cmpI a b = 1 := fun h g => by unfold cmpI; rw [if_neg (by simp only [w64] at *; omega), if_neg (by simp only [w64] at *; omega)]
  have c5 : a / w64 = b / w64 → b % w64 = a % w64 → cmpI a b = 0 := fun h g => by unfold cmpI; rw [if_neg (by simp only [w64] at *; omega), if_pos (by simp only [w64] at *; omega)]
  unfold W2
  generalize cmpI a b = r at *
  generalize a % w64 = al at *
  generalize a / w64 = ah at *
  generalize b % w64 = bl at *
  generalize b / w64 = bh at *
  refine Cw.enterS Tryz.func123 rfl rfl ?_
  refine Sm.seqW ?_
  conv => whnf
  refine hp.var (cs := C2 al ah) (e := 1) rfl rfl ?_
  clear hp
  intro p1 s hp _
  conv => whnf
  refine hp.var (cs := C2 bl bh) (e := 1) rfl rfl ?_
  clear hp
  intro p2 s hp _
  conv => whnf
  refine Sm.live [2, 3] ?_
  conv => whnf
  refine Sm.seq ?_
  refine Sm.seqW ?_
  conv => whnf
  refine Sm.block ?_
  refine Sm.loop ?_
  refine Lp.ofS (α := Nat) (fun m => [(2, .pointer (some ⟨p1, 0, none⟩)), (3, .pointer (some ⟨p2, 0, none⟩)), (5, .int .i64 (kk m))])
    (fun m s' => m ≤ 2 ∧ (1 ≤ m → ah = bh) ∧ (2 ≤ m → bl = al) ∧ Hp (fun _ => False) z [] [blkA p2 p2 (C2 bl bh) 1, blkA p1 p1 (C2 al ah) 1] s') (fun m => 2 - m) ?_ 0 (subK_ok (by refine ⟨rfl, rfl, rfl, trivial⟩)) ⟨by decide, fun h => absurd h (by decide), fun h => absurd h (by decide), hp⟩
  clear hp
  rintro m s ⟨hm, h1, h2, hp⟩
  have hcase : m = 0 ∨ m = 1 ∨ m = 2 := by omega
  rcases hcase with rfl | rfl | rfl
  · refine Sm.seq ?_
    refine Sm.seqW ?_
    conv => whnf
    refine Sm.ofW ?_
    conv => whnf
    refine Br.yes rfl ?_
    conv => whnf
    refine Sm.seq (Sm.block ?_)
    refine Sm.seqW ?_
    conv => whnf
    refine ⟨[0, 1, 3, 0, 8, 24, 63], by decide +kernel, by decide +kernel, ?_⟩
    conv => whnf
    (refine Om.of _ rfl ?_; conv => whnf)
    (refine hp.load (by repeat (first | exact Has.here | apply Has.there | (apply Has.swap; repeat (first | exact HasR.here | apply HasR.there)))) (by rfl) rfl rfl rfl ?_; conv => whnf)
    (refine Om.of _ rfl ?_; conv => whnf)
    (refine hp.load (by repeat (first | exact Has.here | apply Has.there | (apply Has.swap; repeat (first | exact HasR.here | apply HasR.there)))) (by rfl) rfl rfl rfl ?_; conv => whnf)
    by_cases he : ah = bh
    · refine Sm.ofW ?_
      conv => whnf
      refine Br.no (bne_eq_false_iff_eq.2 (by exact congrArg Int.ofNat he)) ?_
      conv => whnf
      refine Sm.ofW ?_
      conv => whnf
      exact ⟨1, by decide, subK_ok (by refine ⟨rfl, rfl, rfl, trivial⟩), by decide, fun _ => he, fun h => absurd h (by decide), hp⟩
    · refine Sm.cond (v := true) (congrArg (fun x => some (Value.bool x)) (bne_iff_ne.2 (by intro h; exact he (Int.ofNat.inj h)))) (fun _ => ?_) (fun h => by cases h)
      refine Sm.seq ?_
      refine Sm.seqW ?_
      conv => whnf
      refine ⟨[0, 1, 3, 0, 8, 24, 63], by decide +kernel, by decide +kernel, ?_⟩
      conv => whnf
      (refine Om.of _ rfl ?_; conv => whnf)
      (refine hp.load (by repeat (first | exact Has.here | apply Has.there | (apply Has.swap; repeat (first | exact HasR.here | apply HasR.there)))) (by rfl) rfl rfl rfl ?_; conv => whnf)
      (refine Om.of _ rfl ?_; conv => whnf)
      (refine hp.load (by repeat (first | exact Has.here | apply Has.there | (apply Has.swap; repeat (first | exact HasR.here | apply HasR.there)))) (by rfl) rfl rfl rfl ?_; conv => whnf)
      refine Sm.ofW ?_
      conv => whnf
      refine Br.mk (fun hc => ?_) (fun hc => ?_)
      · have hc := of_decide_eq_true hc
        conv => whnf
        exact ⟨hp.fr, congrArg (Value.int .i64) (c1 (by omega)).symm⟩
      · have hc := of_decide_eq_false hc
        conv => whnf
        refine Sm.ofW ?_
        conv => whnf
        exact ⟨hp.fr, congrArg (Value.int .i64) (c2 (by omega)).symm⟩
  · refine Sm.seq ?_
    refine Sm.seqW ?_
    conv => whnf
    refine Sm.ofW ?_
    conv => whnf
    refine Br.yes rfl ?_
    conv => whnf
    refine Sm.seq (Sm.block ?_)
    refine Sm.seqW ?_
    conv => whnf
    refine ⟨[0, 1, 3, 0, 8, 24, 63], by decide +kernel, by decide +kernel, ?_⟩
    conv => whnf
    (refine Om.of _ rfl ?_; conv => whnf)
    (refine hp.load (by repeat (first | exact Has.here | apply Has.there | (apply Has.swap; repeat (first | exact HasR.here | apply HasR.there)))) (by rfl) rfl rfl rfl ?_; conv => whnf)
    (refine Om.of _ rfl ?_; conv => whnf)
    (refine hp.load (by repeat (first | exact Has.here | apply Has.there | (apply Has.swap; repeat (first | exact HasR.here | apply HasR.there)))) (by rfl) rfl rfl rfl ?_; conv => whnf)
    by_cases he : bl = al
    · refine Sm.ofW ?_
      conv => whnf
      refine Br.no (bne_eq_false_iff_eq.2 (by exact congrArg Int.ofNat he.symm)) ?_
      conv => whnf
      refine Sm.ofW ?_
      conv => whnf
      exact ⟨2, by decide, subK_ok (by refine ⟨rfl, rfl, rfl, trivial⟩), by decide, fun _ => h1 (by decide), fun _ => he, hp⟩
    · refine Sm.cond (v := true) (congrArg (fun x => some (Value.bool x)) (bne_iff_ne.2 (by intro h; exact he (Int.ofNat.inj h).symm))) (fun _ => ?_) (fun h => by cases h)
      refine Sm.seq ?_
      refine Sm.seqW ?_
      conv => whnf
      refine ⟨[0, 1, 3, 0, 8, 24, 63], by decide +kernel, by decide +kernel, ?_⟩
      conv => whnf
      (refine Om.of _ rfl ?_; conv => whnf)
      (refine hp.load (by repeat (first | exact Has.here | apply Has.there | (apply Has.swap; repeat (first | exact HasR.here | apply HasR.there)))) (by rfl) rfl rfl rfl ?_; conv => whnf)
      (refine Om.of _ rfl ?_; conv => whnf)
      (refine hp.load (by repeat (first | exact Has.here | apply Has.there | (apply Has.swap; repeat (first | exact HasR.here | apply HasR.there)))) (by rfl) rfl rfl rfl ?_; conv => whnf)
      refine Sm.ofW ?_
      conv => whnf
      refine Br.mk (fun hc => ?_) (fun hc => ?_)
      · have hc := of_decide_eq_true hc
        conv => whnf
        exact ⟨hp.fr, congrArg (Value.int .i64) (c3 (h1 (by decide)) (by omega)).symm⟩
      · have hc := of_decide_eq_false hc
        conv => whnf
        refine Sm.ofW ?_
        conv => whnf
        exact ⟨hp.fr, congrArg (Value.int .i64) (c4 (h1 (by decide)) (by omega)).symm⟩
  · refine Sm.seq ?_
    refine Sm.seqW ?_
    conv => whnf
    refine Sm.ofW ?_
    conv => whnf
    refine Br.no rfl ?_
    conv => whnf
    refine Sm.ofW ?_
    conv => whnf
    exact ⟨hp.fr, congrArg (Value.int .i64) (c5 (h1 (by decide)) (h2 (by decide))).symm⟩
/-- A number's halves of words. -/
def hv (n i : Nat) : Nat := n / 4294967296 ^ i % 4294967296
def H4 (n : Nat) : Value := .agg #[.int .u32 (hv n 0 : Int), .int .u32 (hv n 1 : Int), .int .u32 (hv n 2 : Int), .int .u32 (hv n 3 : Int)]
def HC (n : Nat) : List Value := [.int .u32 (hv n 0 : Int), .int .u32 (hv n 1 : Int), .int .u32 (hv n 2 : Int), .int .u32 (hv n 3 : Int)]
theorem fdiv32 (n : Nat) : ((n : Int)).fdiv (2 ^ 32) = ((n / 4294967296 : Nat) : Int) := by
  rw [Int.fdiv_eq_ediv_of_nonneg _ (by decide)]; exact (Int.natCast_ediv n 4294967296).symm
theorem hv_eq (n : Nat) (h : n < w128) : n % w64 % 4294967296 = hv n 0 ∧ n % w64 / 4294967296 % 4294967296 = hv n 1 ∧ n / w64 % 4294967296 = hv n 2 ∧ n / w64 / 4294967296 % 4294967296 = hv n 3 := by
  unfold hv
  have hB : w64 = 4294967296 * 4294967296 := by decide
  rw [hB, show (4294967296 : Nat) ^ 0 = 1 by decide, show (4294967296 : Nat) ^ 1 = 4294967296 by decide, show (4294967296 : Nat) ^ 2 = 4294967296 * 4294967296 by decide, show (4294967296 : Nat) ^ 3 = 4294967296 * 4294967296 * 4294967296 by decide]
  refine ⟨?_, ?_, rfl, ?_⟩
  · rw [Nat.mod_mul_right_mod, Nat.div_one]
  · rw [Nat.mod_mul_right_div_self, Nat.mod_mod]
  · rw [Nat.div_div_eq_div_mul]
theorem lhalves_spec {z : St} (wf : WF z) {n : Nat} (hn : n < w128) :
    Cw Tryz.prog 121 [W2 n] z fun r s' => K0 z s' ∧ r = H4 n := by
  have hp : Hp (fun _ => False) z [] [] z := Hp.start _ wf _ (by simp)
  obtain ⟨e0, e1, e2, e3⟩ := hv_eq n hn
  refine Cw.enterS Tryz.func121 rfl rfl ?_
  refine Sm.seqW ?_
  conv => whnf
  refine hp.var (cs := C2 (n % w64) (n / w64)) (e := 1) rfl rfl ?_
  clear hp
  intro p1 s hp _
  conv => whnf
  refine hp.alloc (cs := [.int .u32 0, .int .u32 0, .int .u32 0, .int .u32 0]) (e := 1) rfl rfl rfl rfl rfl ?_
  clear hp
  intro p3 s hp _
  conv => whnf
  refine Sm.seqW ?_
  conv => whnf
  (refine Om.of _ rfl ?_; conv => whnf)
  (refine hp.load (by repeat (first | exact Has.here | apply Has.there | (apply Has.swap; repeat (first | exact HasR.here | apply HasR.there)))) (by rfl) rfl rfl rfl ?_; conv => whnf)
  (refine Om.of _ rfl ?_; conv => whnf)
  (refine hp.load (by repeat (first | exact Has.here | apply Has.there | (apply Has.swap; repeat (first | exact HasR.here | apply HasR.there)))) (by rfl) rfl rfl rfl ?_; conv => whnf)
  refine Om.of _ (congrArg (fun x => some (Value.int .u64 x)) (fdiv32 _)) ?_
  conv => whnf
  (refine Om.of _ rfl ?_; conv => whnf)
  (refine hp.load (by repeat (first | exact Has.here | apply Has.there | (apply Has.swap; repeat (first | exact HasR.here | apply HasR.there)))) (by rfl) rfl rfl rfl ?_; conv => whnf)
  (refine Om.of _ rfl ?_; conv => whnf)
  (refine hp.load (by repeat (first | exact Has.here | apply Has.there | (apply Has.swap; repeat (first | exact HasR.here | apply HasR.there)))) (by rfl) rfl rfl rfl ?_; conv => whnf)
  refine Om.of _ (congrArg (fun x => some (Value.int .u64 x)) (fdiv32 _)) ?_
  conv => whnf
  simp only [wrap_u32, e0, e1, e2, e3]
  refine hp.storeW (vs := HC n) rfl (by repeat (first | exact Rm.here | apply Rm.there)) (by rfl) rfl rfl rfl ?_
  clear hp
  intro s hp _
  conv => whnf
  refine Sm.ofW ?_
  conv => whnf
  refine hp.loadA (l := HC n) (by repeat (first | exact Has.here | apply Has.there | (apply Has.swap; repeat (first | exact HasR.here | apply HasR.there)))) rfl (by rfl) rfl rfl ?_
  conv => whnf
  exact ⟨hp.fr, rfl⟩
end Go.Ev
end

/- Numbers of two words, further: Mul. No condition. -/
noncomputable section
namespace Go.Ev
open Go.Proofs
variable [Lk]
set_option linter.unusedSectionVars false
set_option linter.unusedVariables false
set_option maxRecDepth 100000

abbrev B32 : Nat := 4294967296
/-- What half words are worth. -/
def Vh : List Nat → Nat
  | [] => 0
  | d :: l => d + B32 * Vh l
theorem Vh_set : ∀ (l : List Nat) (k v : Nat) (h : k < l.length), Vh (l.set k v) + l[k] * B32 ^ k = Vh l + v * B32 ^ k
  | [], k, v, h => by simp at h
  | d :: l, 0, v, h => by simp [Vh]; omega
  | d :: l, k + 1, v, h => by
    have ih := Vh_set l k v (by simpa using h)
    simp only [List.set_cons_succ, List.getElem_cons_succ, Vh, Nat.pow_succ]
    have e1 : ∀ x, x * (B32 ^ k * B32) = B32 * (x * B32 ^ k) := fun x => by rw [Nat.mul_comm B32 (x * B32 ^ k), Nat.mul_assoc]
    rw [e1, e1]
    have := congrArg (fun x => B32 * x) ih
    simp only [Nat.mul_add] at this
    omega
def natU (l : List Nat) : List Value := l.map fun (n : Nat) => .int .u64 (n : Int)
theorem natU_len (l : List Nat) : (natU l).length = l.length := by simp [natU]
theorem natU_get (l : List Nat) (k : Nat) (h : k < l.length) : (natU l)[k]? = some (.int .u64 (l[k] : Int)) := by simp [natU, h]
theorem natU_set (l : List Nat) (k v : Nat) : (natU l).set k (.int .u64 (v : Int)) = natU (l.set k v) := by simp [natU, List.map_set]
theorem ixA {P : Program} {t n e : Nat} (hu : P.underlying t = some (.array n e)) {j : TypeInfo} (hi : P.info? e = some j) (hj : j.size = 1) {b off i : Nat} (k : IntKind) (h : i < n) :
    evIndexAddr P t (.pointer (some ⟨b, off, none⟩)) (.int k (i : Int)) = some (.pointer (some ⟨b, off + i, none⟩)) := by
  show (match P.underlying t, Value.pointer (some ⟨b, off, none⟩), Value.int k (.ofNat i) with
    | some (.slice e), .slice (some a) n _, .int _ (.ofNat i) => match Nat.blt i n, P.info? e with
      | true, some j => some (Value.pointer (some ⟨a.block, a.off + i * j.size, none⟩))
      | _, _ => none
    | some (.array n e), .pointer (some a), .int _ (.ofNat i) => match Nat.blt i n, P.info? e with
      | true, some j => some (Value.pointer (some ⟨a.block, a.off + i * j.size, none⟩))
      | _, _ => none
    | _, _, _ => none) = _
  have hb : Nat.blt i n = true := by rw [Nat.blt_eq]; exact h
  simp only [hu, hb, hi, hj, Nat.mul_one]
theorem ixV (n : Nat) : ∀ i : Nat, i < 4 → evIndex Tryz.prog 189 (H4 n) (.int .i64 (i : Int)) = some (.int .u32 (hv n i : Int))
  | 0, _ => rfl
  | 1, _ => rfl
  | 2, _ => rfl
  | 3, _ => rfl
  | _ + 4, h => by omega
theorem hv_lt (n i : Nat) : hv n i < B32 := Nat.mod_lt _ (by decide)
/-- One step of the product: its parts. -/
theorem mul_step {V o c N r d X eM g V' : Nat} (h : V + c * g = X + eM) (hs : V' + o * g = V + r * g) (hn : N + o + c = B32 * d + r) : V' + d * (g * B32) = X + (eM + N * g) := by
  have h1 := congrArg (fun x => x * g) hn
  simp only [Nat.add_mul] at h1
  have e1 : B32 * d * g = d * (g * B32) := by rw [Nat.mul_comm B32 d, Nat.mul_assoc, Nat.mul_comm B32 g]
  rw [e1] at h1
  omega
theorem prod_lt {p q o c : Nat} (hp : p < B32) (hq : q < B32) (ho : o < B32) (hc : c < B32) : p * q + o + c < w64 := by
  have h1 : p * q ≤ 4294967295 * 4294967295 := Nat.mul_le_mul (by simp only [B32] at *; omega) (by simp only [B32] at *; omega)
  simp only [B32, w64] at *
  omega
/-- What stands after some rows, and some of a row. -/
structure MulOk (a b i j c : Nat) (l : List Nat) : Prop where
  len : l.length = 8
  lt : ∀ x ∈ l, x < B32
  zero : ∀ k (h : k < l.length), i + 4 ≤ k → l[k] = 0
  cl : c < B32
  val : Vh l + c * (B32 ^ i * B32 ^ j) = a % B32 ^ i * b + B32 ^ i * (hv a i * (b % B32 ^ j))
theorem MulOk.step {a b i j c : Nat} {l : List Nat} (h : MulOk a b i j c l) (hi : i < 4) (hj : j < 4) :
    ∃ hk : i + j < l.length, hv a i * hv b j + l[i + j] + c < w64 ∧ MulOk a b i (j + 1) ((hv a i * hv b j + l[i + j] + c) / B32) (l.set (i + j) ((hv a i * hv b j + l[i + j] + c) % B32)) := by
  have hk : i + j < l.length := by rw [h.len]; omega
  have hlt := prod_lt (hv_lt a i) (hv_lt b j) (h.lt _ (List.getElem_mem hk)) h.cl
  refine ⟨hk, hlt, by rw [List.length_set]; exact h.len, fun x hx => ?_, fun k hk2 hik => ?_, ?_, ?_⟩
  · rcases List.mem_or_eq_of_mem_set hx with g | g
    · exact h.lt x g
    · rw [g]; exact Nat.mod_lt _ (by decide)
  · rw [List.getElem_set_ne (by omega)]
    exact h.zero k (by simpa using hk2) hik
  · rw [Nat.div_lt_iff_lt_mul (by decide)]
    rw [show B32 * B32 = w64 by decide]; exact hlt
  · have hs := Vh_set l (i + j) ((hv a i * hv b j + l[i + j] + c) % B32) hk
    rw [Nat.pow_add] at hs
    have hn : hv a i * hv b j + l[i + j] + c = B32 * ((hv a i * hv b j + l[i + j] + c) / B32) + (hv a i * hv b j + l[i + j] + c) % B32 := (Nat.div_add_mod _ _).symm
    have := mul_step h.val hs hn
    rw [Nat.pow_succ, ← Nat.mul_assoc (B32 ^ i)]
    rw [this]
    have e1 : b % (B32 ^ j * B32) = b % B32 ^ j + B32 ^ j * hv b j := by rw [← Nat.pow_succ, Nat.mod_pow_succ]; rfl
    rw [e1]
    congr 1
    rw [Nat.mul_add, Nat.mul_add]
    congr 1
    rw [Nat.mul_comm (hv a i * hv b j), Nat.mul_assoc, ← Nat.mul_assoc (hv a i), Nat.mul_comm (hv a i) (B32 ^ j), Nat.mul_assoc]
theorem MulOk.row {a b i c : Nat} {l : List Nat} (h : MulOk a b i 4 c l) (hi : i < 4) (hb : b < w128) : ∃ hk : i + 4 < l.length, MulOk a b (i + 1) 0 0 (l.set (i + 4) c) := by
  have hk : i + 4 < l.length := by rw [h.len]; omega
  have h0 : l[i + 4] = 0 := h.zero _ hk (Nat.le_refl _)
  refine ⟨hk, by rw [List.length_set]; exact h.len, fun x hx => ?_, fun k hk2 hik => ?_, by decide, ?_⟩
  · rcases List.mem_or_eq_of_mem_set hx with g | g
    · exact h.lt x g
    · rw [g]; exact h.cl
  · rw [List.getElem_set_ne (by omega)]
    exact h.zero k (by simpa using hk2) (by omega)
  · have hs := Vh_set l (i + 4) c hk
    rw [h0, Nat.zero_mul, Nat.add_zero, Nat.pow_add] at hs
    have hv2 := h.val
    have hbm : b % B32 ^ 4 = b := Nat.mod_eq_of_lt (by rw [show B32 ^ 4 = w128 by decide]; exact hb)
    rw [hbm] at hv2
    rw [hs, hv2, Nat.zero_mul, Nat.add_zero, Nat.pow_zero, Nat.mod_one, Nat.mul_zero, Nat.mul_zero, Nat.add_zero, Nat.mod_pow_succ, Nat.add_mul, Nat.mul_assoc]
    rfl
theorem MulOk.done {a b c : Nat} {l : List Nat} (h : MulOk a b 4 0 c l) (hc : c = 0) (ha : a < w128) : Vh l = a * b := by
  have hv2 := h.val
  have ham : a % B32 ^ 4 = a := Nat.mod_eq_of_lt (by rw [show B32 ^ 4 = w128 by decide]; exact ha)
  rw [ham, hc, Nat.zero_mul, Nat.add_zero, Nat.pow_zero, Nat.mod_one, Nat.mul_zero, Nat.mul_zero, Nat.add_zero] at hv2
  exact hv2
theorem MulOk.start (a b : Nat) : MulOk a b 0 0 0 [0, 0, 0, 0, 0, 0, 0, 0] := ⟨rfl, by decide, by decide, by decide, by
  rw [Nat.pow_zero, Nat.mod_one, Nat.mod_one]; simp [Vh]⟩
theorem pair_lt {x y : Nat} (hx : x < B32) (hy : y < B32) : x + y * B32 < w64 := by
  have hx : x < 4294967296 := hx
  have hy : y < 4294967296 := hy
  show x + y * 4294967296 < 18446744073709551616
  omega
theorem w4_of {x0 x1 x2 x3 n : Nat} (e : n = x0 + w64 * (x1 + w64 * (x2 + w64 * x3))) (b0 : x0 < w64) (b1 : x1 < w64) (b2 : x2 < w64) : W4 n = A4 x0 x1 x2 x3 := by
  have d1 : n / w64 = x1 + w64 * (x2 + w64 * x3) := by rw [e, Nat.add_mul_div_left _ _ (by decide), Nat.div_eq_of_lt b0, Nat.zero_add]
  have d2 : n / w128 = x2 + w64 * x3 := by
    rw [show w128 = w64 * w64 by decide, ← Nat.div_div_eq_div_mul, d1, Nat.add_mul_div_left _ _ (by decide), Nat.div_eq_of_lt b1, Nat.zero_add]
  have d3 : n / w192 = x3 := by
    rw [show w192 = w128 * w64 by decide, ← Nat.div_div_eq_div_mul, d2, Nat.add_mul_div_left _ _ (by decide), Nat.div_eq_of_lt b2, Nat.zero_add]
  have m0 : n % w64 = x0 := by rw [e, Nat.add_mul_mod_self_left, Nat.mod_eq_of_lt b0]
  unfold W4
  rw [d2, d3, d1, m0, Nat.add_mul_mod_self_left, Nat.mod_eq_of_lt b1, Nat.add_mul_mod_self_left, Nat.mod_eq_of_lt b2]
theorem halves_sum (l0 l1 r : Nat) : l0 + B32 * (l1 + B32 * r) = (l0 + l1 * B32) + w64 * r := by
  rw [show w64 = B32 * B32 by decide, Nat.mul_add, Nat.mul_comm l1, Nat.mul_assoc, Nat.add_assoc]
/-- The words of half words. -/
theorem words_of {l0 l1 l2 l3 l4 l5 l6 l7 n : Nat} (h : Vh [l0, l1, l2, l3, l4, l5, l6, l7] = n) (h0 : l0 < B32) (h1 : l1 < B32) (h2 : l2 < B32) (h3 : l3 < B32) (h4 : l4 < B32) (h5 : l5 < B32) :
    W4 n = A4 (l0 + l1 * B32) (l2 + l3 * B32) (l4 + l5 * B32) (l6 + l7 * B32) := by
  refine w4_of ?_ (pair_lt h0 h1) (pair_lt h2 h3) (pair_lt h4 h5)
  rw [← h]
  show l0 + B32 * (l1 + B32 * (l2 + B32 * (l3 + B32 * (l4 + B32 * (l5 + B32 * (l6 + B32 * (l7 + B32 * 0))))))) = _
  rw [halves_sum, halves_sum, halves_sum, halves_sum, Nat.mul_zero, Nat.add_zero]
end Go.Ev
end

/- Numbers of two words, further: Mul walked. No condition. -/
noncomputable section
namespace Go.Ev
open Go.Proofs
variable [Lk]
set_option linter.unusedSectionVars false
set_option linter.unusedVariables false
set_option maxRecDepth 100000

def wpart (a b c d : Nat) : Nat → List Value
  | 0 => C4 0 0 0 0
  | 1 => C4 a 0 0 0
  | 2 => C4 a b 0 0
  | 3 => C4 a b c 0
  | _ => C4 a b c d
theorem C4_same (a b c d a' b' c' d' : Nat) : (C4 a b c d).length = (C4 a' b' c' d').length := rfl
theorem lMul_spec {z : St} (wf : WF z) {a b : Nat} (ha : a < w128) (hb : b < w128) :
    Cw Tryz.prog 76 [W2 a, W2 b] z fun r s' => K0 z s' ∧ r = W4 (a * b) := by
  have hp : Hp (fun _ => False) z [] [] z := Hp.start _ wf _ (by simp)
  refine Cw.enterS Tryz.func76 rfl rfl ?_
  refine Sm.seqW ?_
  conv => whnf
  refine hp.var (cs := C2 (a % w64) (a / w64)) (e := 1) rfl rfl ?_
  clear hp
  intro p1 s hp _
  conv => whnf
  refine hp.var (cs := C2 (b % w64) (b / w64)) (e := 1) rfl rfl ?_
  clear hp
  intro p2 s hp _
  conv => whnf
  refine hp.alloc (cs := C4 0 0 0 0) (e := 1) rfl rfl rfl rfl rfl ?_
  clear hp
  intro p4 s hp _
  conv => whnf
  refine Sm.live [2, 3, 4] ?_
  conv => whnf
  refine Sm.seqW ?_
  conv => whnf
  refine hp.alloc (cs := natU [0, 0, 0, 0, 0, 0, 0, 0]) (e := 1) rfl rfl rfl rfl rfl ?_
  clear hp
  intro p5 s hp _
  conv => whnf
  refine Sm.live [2, 3, 4, 5] ?_
  conv => whnf
  refine Sm.seqW ?_
  conv => whnf
  refine ⟨[0, 1, 0, 7, 0, 0, 63, 127], by decide +kernel, by decide +kernel, ?_⟩
  conv => whnf
  refine hp.loadA (l := C2 (a % w64) (a / w64)) (by repeat (first | exact Has.here | apply Has.there | (apply Has.swap; repeat (first | exact HasR.here | apply HasR.there)))) rfl (by rfl) rfl rfl ?_
  conv => whnf
  (refine hp.rst.call (lhalves_spec hp.rst.wf ha) ?_; rintro _ s1 rfl h1 k1; (conv => whnf); refine hp.dkN h1 k1 ?_; clear hp h1 k1; intro s hp; conv => whnf)
  refine hp.loadA (l := C2 (b % w64) (b / w64)) (by repeat (first | exact Has.here | apply Has.there | (apply Has.swap; repeat (first | exact HasR.here | apply HasR.there)))) rfl (by rfl) rfl rfl ?_
  conv => whnf
  (refine hp.rst.call (lhalves_spec hp.rst.wf hb) ?_; rintro _ s1 rfl h1 k1; (conv => whnf); refine hp.dkN h1 k1 ?_; clear hp h1 k1; intro s hp; conv => whnf)
  refine hp.rst.alloc (cs := [.int .u32 0, .int .u32 0, .int .u32 0, .int .u32 0]) (e := 1) rfl rfl rfl rfl rfl ?_
  intro p6 s1 h1 k1
  conv => whnf
  refine hp.dkN h1 k1 ?_
  clear hp h1 k1
  intro s hp
  conv => whnf
  refine hp.rst.alloc (cs := [.int .u32 0, .int .u32 0, .int .u32 0, .int .u32 0]) (e := 1) rfl rfl rfl rfl rfl ?_
  intro p7 s1 h1 k1
  conv => whnf
  refine hp.dkN h1 k1 ?_
  clear hp h1 k1
  intro s hp
  conv => whnf
  refine hp.rst.storeW (vs := HC a) rfl (by repeat (first | exact Rm.here | apply Rm.there)) (by rfl) rfl rfl rfl ?_
  intro s1 h1 l1
  conv => whnf
  refine hp.dkW h1 l1 ?_
  clear hp h1 l1
  intro s hp
  conv => whnf
  refine hp.rst.storeW (vs := HC b) rfl (by repeat (first | exact Rm.here | apply Rm.there)) (by rfl) rfl rfl rfl ?_
  intro s1 h1 l1
  conv => whnf
  refine hp.dkW h1 l1 ?_
  clear hp h1 l1
  intro s hp
  conv => whnf
  refine Sm.live [4, 5, 6, 7] ?_
  conv => whnf
  refine Sm.seq ?_
  refine Sm.seqW ?_
  conv => whnf
  refine hp.loadA (l := HC a) (by repeat (first | exact Has.here | apply Has.there | (apply Has.swap; repeat (first | exact HasR.here | apply HasR.there)))) rfl (by rfl) rfl rfl ?_
  conv => whnf
  refine Sm.block ?_
  refine Sm.loop ?_
  refine Lp.ofS (α := Nat × List Nat) (fun x => [(4, .pointer (some ⟨p4, 0, none⟩)), (5, .pointer (some ⟨p5, 0, none⟩)), (7, .pointer (some ⟨p7, 0, none⟩)), (20, H4 a), (21, .int .i64 (x.1 : Int))])
    (fun x s' => x.1 ≤ 4 ∧ MulOk a b x.1 0 0 x.2 ∧ Hp (fun _ => False) z [] [blkA p7 p7 (HC b) 1, blkA p5 p5 (natU x.2) 1, blkA p4 p4 (C4 0 0 0 0) 1] s') (fun x => 4 - x.1) ?_ (0, [0, 0, 0, 0, 0, 0, 0, 0]) (subK_ok (by refine ⟨rfl, rfl, rfl, rfl, rfl, trivial⟩)) ⟨by decide, MulOk.start a b, hp.pik (by repeat (first | exact Pik.nil | exact Pik.refl _ | exact Rm.here | apply Rm.there | apply Pik.cons | apply Pik.skip))⟩
  clear hp
  rintro ⟨i, l⟩ s ⟨hi, ok, hp⟩
  simp only at hi ok hp
  refine Sm.seqW ?_
  conv => whnf
  refine Sm.seqW ?_
  conv => whnf
  refine Br.mk (fun hc => ?_) (fun hc => ?_)
  · have hc : i < 4 := by have := of_decide_eq_true hc; omega
    conv => whnf
    refine Sm.seq (Sm.block ?_)
    refine Sm.seqW ?_
    conv => whnf
    refine Om.of _ (ixV a i hc) ?_
    conv => whnf
    refine Sm.seqW ?_
    conv => whnf
    refine Sm.live [4, 5, 7, 8, 9, 10, 20, 21] ?_
    conv => whnf
    refine Sm.seq ?_
    refine Sm.seqW ?_
    conv => whnf
    refine hp.loadA (l := HC b) (by repeat (first | exact Has.here | apply Has.there | (apply Has.swap; repeat (first | exact HasR.here | apply HasR.there)))) rfl (by rfl) rfl rfl ?_
    conv => whnf
    refine Sm.block ?_
    refine Sm.loop ?_
    refine Lp.ofS (α := Nat × Nat × List Nat) (fun y => [(4, .pointer (some ⟨p4, 0, none⟩)), (5, .pointer (some ⟨p5, 0, none⟩)), (7, .pointer (some ⟨p7, 0, none⟩)), (8, .int .i64 (i : Int)), (9, .int .u32 (hv a i : Int)), (10, .int .u64 (y.2.1 : Int)), (20, H4 a), (21, .int .i64 (i : Int)), (25, H4 b), (26, .int .i64 (y.1 : Int))])
      (fun y s' => y.1 ≤ 4 ∧ MulOk a b i y.1 y.2.1 y.2.2 ∧ Hp (fun _ => False) z [] [blkA p7 p7 (HC b) 1, blkA p5 p5 (natU y.2.2) 1, blkA p4 p4 (C4 0 0 0 0) 1] s') (fun y => 4 - y.1) ?_ (0, 0, l) (subK_ok (by refine ⟨rfl, rfl, rfl, rfl, rfl, rfl, rfl, rfl, rfl, rfl, trivial⟩)) ⟨Nat.zero_le _, ok, hp.pik (by repeat (first | exact Pik.nil | exact Pik.refl _ | exact Rm.here | apply Rm.there | apply Pik.cons | apply Pik.skip))⟩
    clear hp ok
    rintro ⟨j, c, m⟩ s ⟨hj, ok, hp⟩
    simp only at hj ok hp
    refine Sm.seqW ?_
    conv => whnf
    refine Sm.seqW ?_
    conv => whnf
    refine Br.mk (fun hq => ?_) (fun hq => ?_)
    · have hq : j < 4 := by have := of_decide_eq_true hq; omega
      obtain ⟨hk, hlt, ok2⟩ := ok.step hc hq
      conv => whnf
      refine Sm.seq (Sm.block ?_)
      refine Sm.seqW ?_
      conv => whnf
      refine Om.of _ (ixV b j hq) ?_
      conv => whnf
      refine Sm.live [4, 5, 7, 8, 9, 10, 11, 12, 20, 21, 25, 26] ?_
      conv => whnf
      refine Sm.seqW ?_
      conv => whnf
      have eij : IntKind.i64.wrap ((i : Int) + (j : Int)) = ((i + j : Nat) : Int) := by rw [wi64 (by omega) (by omega)]; push_cast; rfl
      rw [eij]
      refine Om.of _ (ixA Tryz.underlying187 rfl rfl .i64 (show i + j < 8 by omega)) ?_
      conv => whnf
      refine hp.load (v := .int .u64 (m[i + j] : Int)) (by repeat (first | exact Has.here | apply Has.there | (apply Has.swap; repeat (first | exact HasR.here | apply HasR.there)))) (by rw [Nat.zero_add]; exact natU_get m _ hk) rfl rfl rfl ?_
      conv => whnf
      have e1 : IntKind.u64.wrap (hv a i : Int) = (hv a i : Int) := by
        have := hv_lt a i
        rw [wrap_u64, Nat.mod_eq_of_lt (by simp only [B32] at this; omega)]
      have e2 : IntKind.u64.wrap (hv b j : Int) = (hv b j : Int) := by
        have := hv_lt b j
        rw [wrap_u64, Nat.mod_eq_of_lt (by simp only [B32] at this; omega)]
      have hlt' : hv a i * hv b j + m[i + j] + c < 18446744073709551616 := hlt
      have e3 : IntKind.u64.wrap (IntKind.u64.wrap (IntKind.u64.wrap (IntKind.u64.wrap (hv a i : Int) * IntKind.u64.wrap (hv b j : Int)) + (m[i + j] : Int)) + (c : Int)) = ((hv a i * hv b j + m[i + j] + c : Nat) : Int) := by
        rw [e1, e2, ← Int.natCast_mul, wrap_u64, Nat.mod_eq_of_lt (by omega), ← Int.natCast_add, wrap_u64, Nat.mod_eq_of_lt (by omega), ← Int.natCast_add, wrap_u64, Nat.mod_eq_of_lt hlt']
      rw [e3]
      generalize hn : hv a i * hv b j + m[i + j] + c = n at *
      refine Sm.live [4, 5, 7, 8, 9, 11, 13, 20, 21, 25, 26] ?_
      conv => whnf
      refine Sm.seqW ?_
      conv => whnf
      rw [eij]
      refine Om.of _ (ixA Tryz.underlying187 rfl rfl .i64 (show i + j < 8 by omega)) ?_
      conv => whnf
      have e4 : IntKind.u64.wrap (IntKind.u32.wrap (n : Int)) = ((n % B32 : Nat) : Int) := by
        rw [wrap_u32, wrap_u64, Nat.mod_eq_of_lt (by have := Nat.mod_lt n (show 0 < 4294967296 by decide); omega)]
      rw [e4]
      refine hp.store (by repeat (first | exact Rm.here | apply Rm.there)) (by rw [natU_len]; omega) rfl rfl rfl rfl ?_
      clear hp
      intro s hp _
      rw [Nat.zero_add, natU_set] at hp
      conv => whnf
      refine Sm.ofW ?_
      conv => whnf
      refine Om.of _ (congrArg (fun x => some (Value.int .u64 x)) (fdiv32 _)) ?_
      conv => whnf
      refine Sm.ofW ?_
      conv => whnf
      have ej : IntKind.i64.wrap ((j : Int) + 1) = ((j + 1 : Nat) : Int) := by rw [wi64 (by omega) (by omega)]; push_cast; rfl
      refine ⟨(j + 1, n / B32, m.set (i + j) (n % B32)), by (show 4 - (j + 1) < 4 - j); omega, subK_ok (by refine ⟨rfl, rfl, rfl, rfl, rfl, rfl, rfl, rfl, rfl, congrArg (fun x => some (Value.int .i64 x)) ej, trivial⟩), hq, ok2, hp.pik (by repeat (first | exact Pik.nil | exact Pik.refl _ | exact Rm.here | apply Rm.there | apply Pik.cons | apply Pik.skip))⟩
    · have hq : j = 4 := by have := of_decide_eq_false hq; omega
      subst hq
      obtain ⟨hk, ok2⟩ := ok.row hc hb
      conv => whnf
      refine Sm.ofW ?_
      conv => whnf
      have ei4 : IntKind.i64.wrap ((i : Int) + 4) = ((i + 4 : Nat) : Int) := by rw [wi64 (by omega) (by omega)]; push_cast; rfl
      rw [ei4]
      refine Om.of _ (ixA Tryz.underlying187 rfl rfl .i64 (show i + 4 < 8 by omega)) ?_
      conv => whnf
      refine hp.store (by repeat (first | exact Rm.here | apply Rm.there)) (by rw [natU_len]; omega) rfl rfl rfl rfl ?_
      clear hp
      intro s hp _
      rw [Nat.zero_add, natU_set] at hp
      conv => whnf
      refine Sm.ofW ?_
      conv => whnf
      have ei : IntKind.i64.wrap ((i : Int) + 1) = ((i + 1 : Nat) : Int) := by rw [wi64 (by omega) (by omega)]; push_cast; rfl
      refine ⟨(i + 1, m.set (i + 4) c), by (show 4 - (i + 1) < 4 - i); omega, subK_ok (by refine ⟨rfl, rfl, rfl, rfl, congrArg (fun x => some (Value.int .i64 x)) ei, trivial⟩), hc, ok2, hp.pik (by repeat (first | exact Pik.nil | exact Pik.refl _ | exact Rm.here | apply Rm.there | apply Pik.cons | apply Pik.skip))⟩
  · have hc : i = 4 := by have := of_decide_eq_false hc; omega
    subst hc
    conv => whnf
    have hsum := ok.done rfl ha
    have hlt := ok.lt
    obtain ⟨l0, l1, l2, l3, l4, l5, l6, l7, rfl⟩ : ∃ l0 l1 l2 l3 l4 l5 l6 l7, l = [l0, l1, l2, l3, l4, l5, l6, l7] := by
      have hlen := ok.len
      match l, hlen with
      | [l0, l1, l2, l3, l4, l5, l6, l7], _ => exact ⟨l0, l1, l2, l3, l4, l5, l6, l7, rfl⟩
    clear ok
    have g0 := hlt l0 (by simp)
    have g1 := hlt l1 (by simp)
    have g2 := hlt l2 (by simp)
    have g3 := hlt l3 (by simp)
    have g4 := hlt l4 (by simp)
    have g5 := hlt l5 (by simp)
    have g6 := hlt l6 (by simp)
    have g7 := hlt l7 (by simp)
    have hw := words_of hsum g0 g1 g2 g3 g4 g5
    clear hlt hsum
    have wd : ∀ x y : Nat, x < B32 → y < B32 → IntKind.u64.wrap ((BitVec.ofInt IntKind.u64.bits (x : Int) ||| BitVec.ofInt IntKind.u64.bits (IntKind.u64.wrap ((y : Int) * 2 ^ 32))).toNat : Int) = ((x + y * B32 : Nat) : Int) := by
      intro x y hx hy
      have hx : x < 4294967296 := hx
      have hy : y < 4294967296 := hy
      have e : IntKind.u64.wrap ((y : Int) * 2 ^ 32) = ((y * 4294967296 : Nat) : Int) := by
        rw [show ((2 : Int) ^ 32) = ((4294967296 : Nat) : Int) from rfl, ← Int.natCast_mul, wrap_u64, Nat.mod_eq_of_lt (by omega)]
      rw [e, or_u64 (by omega) (by omega)]
      have := or_shift (a := x) (b := y) (k := 32) (by omega)
      rw [show (2 : Nat) ^ 32 = 4294967296 by decide] at this
      rw [this]
    rw [hw]
    clear hw
    have w0 := wd l0 l1 g0 g1
    have w1 := wd l2 l3 g2 g3
    have w2 := wd l4 l5 g4 g5
    have w3 := wd l6 l7 g6 g7
    clear wd
    generalize l0 + l1 * B32 = x0 at w0 ⊢
    generalize l2 + l3 * B32 = x1 at w1 ⊢
    generalize l4 + l5 * B32 = x2 at w2 ⊢
    generalize l6 + l7 * B32 = x3 at w3 ⊢
    refine Sm.live [4, 5] ?_
    conv => whnf
    refine Sm.seqW ?_
    conv => whnf
    refine hp.alloc (cs := C4 0 0 0 0) (e := 1) rfl rfl rfl rfl rfl ?_
    clear hp
    intro p14 s hp _
    conv => whnf
    refine Sm.seq (Sm.mono (Q := fun e L' s' => e = .normal ∧ Hp (fun _ => False) z [] [blkA p14 p14 (C4 x0 x1 x2 x3) 1, blkA p4 p4 (C4 0 0 0 0) 1] s' ∧ Sub [(4, .pointer (some ⟨p4, 0, none⟩)), (14, .pointer (some ⟨p14, 0, none⟩))] L') ?_ ?_)
    · refine Sm.seqW ?_
      conv => whnf
      refine Sm.block ?_
      refine Sm.loop ?_
      refine Lp.ofS (α := Nat) (fun k => [(4, .pointer (some ⟨p4, 0, none⟩)), (5, .pointer (some ⟨p5, 0, none⟩)), (14, .pointer (some ⟨p14, 0, none⟩)), (58, .int .i64 (k : Int))])
        (fun k s' => k ≤ 4 ∧ Hp (fun _ => False) z [] [blkA p14 p14 (wpart x0 x1 x2 x3 k) 1, blkA p5 p5 (natU [l0, l1, l2, l3, l4, l5, l6, l7]) 1, blkA p4 p4 (C4 0 0 0 0) 1] s') (fun k => 4 - k) ?_ 0 (subK_ok (by refine ⟨rfl, rfl, rfl, rfl, trivial⟩)) ⟨by decide, hp.pik (by repeat (first | exact Pik.nil | exact Pik.refl _ | exact Rm.here | apply Rm.there | apply Pik.cons | apply Pik.skip))⟩
      clear hp
      rintro k s ⟨hk, hp⟩
      have hcase : k = 0 ∨ k = 1 ∨ k = 2 ∨ k = 3 ∨ k = 4 := by omega
      rcases hcase with rfl | rfl | rfl | rfl | rfl
      · refine Sm.seqW ?_
        conv => whnf
        refine Sm.seqW ?_
        conv => whnf
        refine Br.yes rfl ?_
        conv => whnf
        refine Sm.seq (Sm.block ?_)
        refine Sm.seqW ?_
        conv => whnf
        refine Sm.ofW ?_
        conv => whnf
        refine ⟨[0, 0, 2, 6, 14, 0, 32, 96, 224, 480, 992, 2046, 4095, 8191], by decide +kernel, by decide +kernel, ?_⟩
        conv => whnf
        refine Om.of (.pointer (some ⟨p5, 0, none⟩)) rfl ?_
        conv => whnf
        refine hp.load (v := .int .u64 (l0 : Int)) (by repeat (first | exact Has.here | apply Has.there | (apply Has.swap; repeat (first | exact HasR.here | apply HasR.there)))) (by rfl) rfl rfl rfl ?_
        conv => whnf
        refine Om.of (.pointer (some ⟨p5, 1, none⟩)) rfl ?_
        conv => whnf
        refine hp.load (v := .int .u64 (l1 : Int)) (by repeat (first | exact Has.here | apply Has.there | (apply Has.swap; repeat (first | exact HasR.here | apply HasR.there)))) (by rfl) rfl rfl rfl ?_
        conv => whnf
        refine Om.of (.int .u64 (IntKind.u64.wrap ((l1 : Int) * 2 ^ 32))) rfl ?_
        conv => whnf
        rw [w0]
        refine Om.of (.pointer (some ⟨p14, 0, none⟩)) rfl ?_
        conv => whnf
        refine hp.rst.store (by repeat (first | exact Rm.here | apply Rm.there)) (by show 0 < 4; decide) rfl rfl rfl rfl ?_
        intro s1 h1 l1'
        conv => whnf
        refine hp.dkW h1 l1' ?_
        clear hp h1 l1'
        intro s hp
        conv => whnf
        refine Sm.ofW ?_
        conv => whnf
        exact ⟨1, by decide, subK_ok (by refine ⟨rfl, rfl, rfl, rfl, trivial⟩), by decide, hp.pik (by repeat (first | exact Pik.nil | exact Pik.refl _ | exact Rm.here | apply Rm.there | apply Pik.cons | apply Pik.skip))⟩
      · refine Sm.seqW ?_
        conv => whnf
        refine Sm.seqW ?_
        conv => whnf
        refine Br.yes rfl ?_
        conv => whnf
        refine Sm.seq (Sm.block ?_)
        refine Sm.seqW ?_
        conv => whnf
        refine Sm.ofW ?_
        conv => whnf
        refine ⟨[0, 0, 2, 6, 14, 0, 32, 96, 224, 480, 992, 2046, 4095, 8191], by decide +kernel, by decide +kernel, ?_⟩
        conv => whnf
        refine Om.of (.pointer (some ⟨p5, 2, none⟩)) rfl ?_
        conv => whnf
        refine hp.load (v := .int .u64 (l2 : Int)) (by repeat (first | exact Has.here | apply Has.there | (apply Has.swap; repeat (first | exact HasR.here | apply HasR.there)))) (by rfl) rfl rfl rfl ?_
        conv => whnf
        refine Om.of (.pointer (some ⟨p5, 3, none⟩)) rfl ?_
        conv => whnf
        refine hp.load (v := .int .u64 (l3 : Int)) (by repeat (first | exact Has.here | apply Has.there | (apply Has.swap; repeat (first | exact HasR.here | apply HasR.there)))) (by rfl) rfl rfl rfl ?_
        conv => whnf
        refine Om.of (.int .u64 (IntKind.u64.wrap ((l3 : Int) * 2 ^ 32))) rfl ?_
        conv => whnf
        rw [w1]
        refine Om.of (.pointer (some ⟨p14, 1, none⟩)) rfl ?_
        conv => whnf
        refine hp.rst.store (by repeat (first | exact Rm.here | apply Rm.there)) (by show 1 < 4; decide) rfl rfl rfl rfl ?_
        intro s1 h1 l1'
        conv => whnf
        refine hp.dkW h1 l1' ?_
        clear hp h1 l1'
        intro s hp
        conv => whnf
        refine Sm.ofW ?_
        conv => whnf
        exact ⟨2, by decide, subK_ok (by refine ⟨rfl, rfl, rfl, rfl, trivial⟩), by decide, hp.pik (by repeat (first | exact Pik.nil | exact Pik.refl _ | exact Rm.here | apply Rm.there | apply Pik.cons | apply Pik.skip))⟩
      · refine Sm.seqW ?_
        conv => whnf
        refine Sm.seqW ?_
        conv => whnf
        refine Br.yes rfl ?_
        conv => whnf
        refine Sm.seq (Sm.block ?_)
        refine Sm.seqW ?_
        conv => whnf
        refine Sm.ofW ?_
        conv => whnf
        refine ⟨[0, 0, 2, 6, 14, 0, 32, 96, 224, 480, 992, 2046, 4095, 8191], by decide +kernel, by decide +kernel, ?_⟩
        conv => whnf
        refine Om.of (.pointer (some ⟨p5, 4, none⟩)) rfl ?_
        conv => whnf
        refine hp.load (v := .int .u64 (l4 : Int)) (by repeat (first | exact Has.here | apply Has.there | (apply Has.swap; repeat (first | exact HasR.here | apply HasR.there)))) (by rfl) rfl rfl rfl ?_
        conv => whnf
        refine Om.of (.pointer (some ⟨p5, 5, none⟩)) rfl ?_
        conv => whnf
        refine hp.load (v := .int .u64 (l5 : Int)) (by repeat (first | exact Has.here | apply Has.there | (apply Has.swap; repeat (first | exact HasR.here | apply HasR.there)))) (by rfl) rfl rfl rfl ?_
        conv => whnf
        refine Om.of (.int .u64 (IntKind.u64.wrap ((l5 : Int) * 2 ^ 32))) rfl ?_
        conv => whnf
        rw [w2]
        refine Om.of (.pointer (some ⟨p14, 2, none⟩)) rfl ?_
        conv => whnf
        refine hp.rst.store (by repeat (first | exact Rm.here | apply Rm.there)) (by show 2 < 4; decide) rfl rfl rfl rfl ?_
        intro s1 h1 l1'
        conv => whnf
        refine hp.dkW h1 l1' ?_
        clear hp h1 l1'
        intro s hp
        conv => whnf
        refine Sm.ofW ?_
        conv => whnf
        exact ⟨3, by decide, subK_ok (by refine ⟨rfl, rfl, rfl, rfl, trivial⟩), by decide, hp.pik (by repeat (first | exact Pik.nil | exact Pik.refl _ | exact Rm.here | apply Rm.there | apply Pik.cons | apply Pik.skip))⟩
      · refine Sm.seqW ?_
        conv => whnf
        refine Sm.seqW ?_
        conv => whnf
        refine Br.yes rfl ?_
        conv => whnf
        refine Sm.seq (Sm.block ?_)
        refine Sm.seqW ?_
        conv => whnf
        refine Sm.ofW ?_
        conv => whnf
        refine ⟨[0, 0, 2, 6, 14, 0, 32, 96, 224, 480, 992, 2046, 4095, 8191], by decide +kernel, by decide +kernel, ?_⟩
        conv => whnf
        refine Om.of (.pointer (some ⟨p5, 6, none⟩)) rfl ?_
        conv => whnf
        refine hp.load (v := .int .u64 (l6 : Int)) (by repeat (first | exact Has.here | apply Has.there | (apply Has.swap; repeat (first | exact HasR.here | apply HasR.there)))) (by rfl) rfl rfl rfl ?_
        conv => whnf
        refine Om.of (.pointer (some ⟨p5, 7, none⟩)) rfl ?_
        conv => whnf
        refine hp.load (v := .int .u64 (l7 : Int)) (by repeat (first | exact Has.here | apply Has.there | (apply Has.swap; repeat (first | exact HasR.here | apply HasR.there)))) (by rfl) rfl rfl rfl ?_
        conv => whnf
        refine Om.of (.int .u64 (IntKind.u64.wrap ((l7 : Int) * 2 ^ 32))) rfl ?_
        conv => whnf
        rw [w3]
        refine Om.of (.pointer (some ⟨p14, 3, none⟩)) rfl ?_
        conv => whnf
        refine hp.rst.store (by repeat (first | exact Rm.here | apply Rm.there)) (by show 3 < 4; decide) rfl rfl rfl rfl ?_
        intro s1 h1 l1'
        conv => whnf
        refine hp.dkW h1 l1' ?_
        clear hp h1 l1'
        intro s hp
        conv => whnf
        refine Sm.ofW ?_
        conv => whnf
        exact ⟨4, by decide, subK_ok (by refine ⟨rfl, rfl, rfl, rfl, trivial⟩), by decide, hp.pik (by repeat (first | exact Pik.nil | exact Pik.refl _ | exact Rm.here | apply Rm.there | apply Pik.cons | apply Pik.skip))⟩
      · refine Sm.seqW ?_
        conv => whnf
        refine Sm.seqW ?_
        conv => whnf
        refine Br.no rfl ?_
        conv => whnf
        exact ⟨rfl, hp.pik (by repeat (first | exact Pik.nil | exact Pik.refl _ | exact Rm.here | apply Rm.there | apply Pik.cons | apply Pik.skip)), subK_ok ⟨rfl, rfl, trivial⟩⟩
    clear hp
    rintro e L' s ⟨rfl, hp, hs⟩
    refine Sm.weak _ hs ?_
    clear hs
    refine Sm.seqW ?_
    conv => whnf
    refine hp.loadA (l := C4 x0 x1 x2 x3) (by repeat (first | exact Has.here | apply Has.there | (apply Has.swap; repeat (first | exact HasR.here | apply HasR.there)))) rfl (by rfl) rfl rfl ?_
    conv => whnf
    refine hp.storeW (vs := C4 x0 x1 x2 x3) rfl (by repeat (first | exact Rm.here | apply Rm.there)) (C4_same ..) rfl rfl rfl ?_
    clear hp
    intro s hp _
    conv => whnf
    refine Sm.ofW ?_
    conv => whnf
    refine hp.loadA (l := C4 x0 x1 x2 x3) (by repeat (first | exact Has.here | apply Has.there | (apply Has.swap; repeat (first | exact HasR.here | apply HasR.there)))) rfl (by rfl) rfl rfl ?_
    conv => whnf
    exact ⟨hp.fr, rfl⟩
end Go.Ev
end

/- Decimals: powers of ten, what is right. No condition. -/
noncomputable section
namespace Go.Ev
open Go.Proofs
variable [Lk]
set_option linter.unusedSectionVars false
set_option linter.unusedVariables false
set_option maxRecDepth 100000

theorem C2_same (a b a' b' : Nat) : (C2 a b).length = (C2 a' b').length := rfl
theorem ten_lt {k : Nat} (h : k ≤ 38) : 10 ^ k < w128 := Nat.lt_of_le_of_lt (Nat.pow_le_pow_right (by decide) h) (by decide)
theorem lShort_ok {z : St} (wf : WF z) {n : Nat} (hn : n < w128) :
    Cw Tryz.prog 75 [W4 n] z fun r s' => K0 z s' ∧ r = .tuple #[W2 n, .bool true] :=
  (lShort_spec wf (Nat.lt_trans hn (by decide))).mono fun r s' ⟨h1, h2⟩ => ⟨h1, h2.trans (if_pos hn)⟩
theorem lShort_no {z : St} (wf : WF z) {n : Nat} (hn : ¬ n < w128) (h : n < w256) :
    Cw Tryz.prog 75 [W4 n] z fun r s' => K0 z s' ∧ r = .tuple #[W2 0, .bool false] :=
  (lShort_spec wf h).mono fun r s' ⟨h1, h2⟩ => ⟨h1, h2.trans (if_neg hn)⟩
theorem lTen_spec {z : St} (wf : WF z) {k : Nat} (hk : k ≤ 38) :
    Cw Tryz.prog 157 [.int .i64 (k : Int)] z fun r s' => K0 z s' ∧ r = .tuple #[W2 (10 ^ k), .bool true] := by
  have hp : Hp (fun _ => False) z [] [] z := Hp.start _ wf _ (by simp)
  refine Cw.enterS Tryz.func157 rfl rfl ?_
  refine Sm.seqW ?_
  conv => whnf
  refine hp.alloc (cs := C2 0 0) (e := 1) rfl rfl rfl rfl rfl ?_
  clear hp
  intro p2 s hp _
  conv => whnf
  refine Sm.live [0, 2, 3] ?_
  conv => whnf
  refine Sm.seq ?_
  refine Sm.seqW ?_
  conv => whnf
  have d1 : decide ((k : Int) < 0) = false := decide_eq_false (by omega)
  have d2 : decide ((k : Int) > 38) = false := decide_eq_false (by omega)
  repeat (first | (refine Br.no d1 ?_; conv => whnf) | (refine Br.no d2 ?_; conv => whnf))
  refine Sm.ofW ?_
  conv => whnf
  repeat (first | (refine Br.no d1 ?_; conv => whnf) | (refine Br.no d2 ?_; conv => whnf))
  clear d1 d2
  refine Sm.live [0, 2, 3] ?_
  conv => whnf
  refine Sm.seqW ?_
  conv => whnf
  (refine hp.call (lOf_spec hp.wf (a := 1) (by decide)) ?_; clear hp; rintro _ s rfl hp _; conv => whnf)
  refine hp.alloc (cs := C2 0 0) (e := 1) rfl rfl rfl rfl rfl ?_
  clear hp
  intro p4 s hp _
  conv => whnf
  refine hp.storeW (vs := C2 1 0) rfl (by repeat (first | exact Rm.here | apply Rm.there)) (C2_same ..) rfl rfl rfl ?_
  clear hp
  intro s hp _
  conv => whnf
  refine Sm.live [0, 2, 3, 4] ?_
  conv => whnf
  refine Sm.seq (Sm.mono (Q := fun e L' s' => e = .normal ∧ Hp (fun _ => False) z [] [blkA p4 p4 (C2 (10 ^ k % w64) (10 ^ k / w64)) 1, blkA p2 p2 (C2 0 0) 1] s' ∧ Sub [(2, .pointer (some ⟨p2, 0, none⟩)), (4, .pointer (some ⟨p4, 0, none⟩))] L') ?_ ?_)
  · refine Sm.seqW ?_
    conv => whnf
    refine Sm.block ?_
    refine Sm.loop ?_
    refine Lp.ofS (α := Nat) (fun i => [(2, .pointer (some ⟨p2, 0, none⟩)), (4, .pointer (some ⟨p4, 0, none⟩)), (13, .int .i64 (k : Int)), (14, .int .i64 (i : Int))])
      (fun i s' => i ≤ k ∧ Hp (fun _ => False) z [] [blkA p4 p4 (C2 (10 ^ i % w64) (10 ^ i / w64)) 1, blkA p2 p2 (C2 0 0) 1] s') (fun i => k - i) ?_ 0 (subK_ok (by refine ⟨rfl, rfl, rfl, rfl, trivial⟩)) ⟨Nat.zero_le _, hp.pik (by repeat (first | exact Pik.nil | exact Pik.refl _ | exact Rm.here | apply Rm.there | apply Pik.cons | apply Pik.skip))⟩
    clear hp
    rintro i s ⟨hi, hp⟩
    refine Sm.seqW ?_
    conv => whnf
    refine Sm.seqW ?_
    conv => whnf
    refine Br.mk (fun hc => ?_) (fun hc => ?_)
    · have hc : i < k := by have := of_decide_eq_true hc; omega
      have h1 := ten_lt (k := i) (by omega)
      have h2 : 10 ^ i * 10 < w128 := by rw [← Nat.pow_succ]; exact ten_lt (by omega)
      have hw1 : w128 < w256 := by decide
      conv => whnf
      refine Sm.seq (Sm.block ?_)
      refine Sm.ofW ?_
      conv => whnf
      refine ⟨[0, 0, 3, 7, 15, 31, 31, 63], by decide +kernel, by decide +kernel, ?_⟩
      conv => whnf
      refine hp.loadA (l := C2 (10 ^ i % w64) (10 ^ i / w64)) (by repeat (first | exact Has.here | apply Has.there | (apply Has.swap; repeat (first | exact HasR.here | apply HasR.there)))) rfl (by rfl) rfl rfl ?_
      conv => whnf
      (refine hp.rst.call (lOf_spec hp.rst.wf (a := 10) (by decide)) ?_; rintro _ s1 rfl h1 k1; (conv => whnf); refine hp.dkN h1 k1 ?_; clear hp h1 k1; intro s hp; conv => whnf)
      (refine hp.rst.call (lMul_spec hp.rst.wf (a := 10 ^ i) (b := 10) h1 (by decide)) ?_; rintro _ s1 rfl h1 k1; (conv => whnf); refine hp.dkN h1 k1 ?_; clear hp h1 k1; intro s hp; conv => whnf)
      (refine hp.rst.call (lShort_ok hp.rst.wf (n := 10 ^ i * 10) h2) ?_; rintro _ s1 rfl h1 k1; (conv => whnf); refine hp.dkN h1 k1 ?_; clear hp h1 k1; intro s hp; conv => whnf)
      rw [← Nat.pow_succ]
      refine hp.rst.storeW (vs := C2 (10 ^ (i + 1) % w64) (10 ^ (i + 1) / w64)) rfl (by repeat (first | exact Rm.here | apply Rm.there)) (C2_same ..) rfl rfl rfl ?_
      intro s1 h1 l1
      conv => whnf
      refine hp.dkW h1 l1 ?_
      clear hp h1 l1
      intro s hp
      conv => whnf
      refine Sm.ofW ?_
      conv => whnf
      have ei : IntKind.i64.wrap ((i : Int) + 1) = ((i + 1 : Nat) : Int) := by rw [wi64 (by omega) (by omega)]; push_cast; rfl
      exact ⟨i + 1, by (show k - (i + 1) < k - i); omega, subK_ok (by refine ⟨rfl, rfl, rfl, congrArg (fun x => some (Value.int .i64 x)) ei, trivial⟩), hc, hp.pik (by repeat (first | exact Pik.nil | exact Pik.refl _ | exact Rm.here | apply Rm.there | apply Pik.cons | apply Pik.skip))⟩
    · have hc : i = k := by have := of_decide_eq_false hc; omega
      subst hc
      conv => whnf
      exact ⟨rfl, hp, subK_ok ⟨rfl, rfl, trivial⟩⟩
  clear hp
  rintro e L' s ⟨rfl, hp, hs⟩
  refine Sm.weak _ hs ?_
  clear hs
  refine Sm.seqW ?_
  conv => whnf
  refine hp.loadA (l := C2 (10 ^ k % w64) (10 ^ k / w64)) (by repeat (first | exact Has.here | apply Has.there | (apply Has.swap; repeat (first | exact HasR.here | apply HasR.there)))) rfl (by rfl) rfl rfl ?_
  conv => whnf
  refine hp.storeW (vs := C2 (10 ^ k % w64) (10 ^ k / w64)) rfl (by repeat (first | exact Rm.here | apply Rm.there)) (C2_same ..) rfl rfl rfl ?_
  clear hp
  intro s hp _
  conv => whnf
  refine Sm.ofW ?_
  conv => whnf
  refine hp.loadA (l := C2 (10 ^ k % w64) (10 ^ k / w64)) (by repeat (first | exact Has.here | apply Has.there | (apply Has.swap; repeat (first | exact HasR.here | apply HasR.there)))) rfl (by rfl) rfl rfl ?_
  conv => whnf
  exact ⟨hp.fr, rfl⟩
theorem dten_spec {z : St} (wf : WF z) {k : Nat} (hk : k ≤ 38) :
    Cw Tryz.prog 114 [.int .i64 (k : Int)] z fun r s' => K0 z s' ∧ r = W2 (10 ^ k) := by
  have hp : Hp (fun _ => False) z [] [] z := Hp.start _ wf _ (by simp)
  refine Cw.enterS Tryz.func114 rfl rfl ?_
  refine Sm.seqW ?_
  conv => whnf
  refine hp.alloc (cs := C2 0 0) (e := 1) rfl rfl rfl rfl rfl ?_
  clear hp
  intro p2 s hp _
  conv => whnf
  refine Sm.seqW ?_
  conv => whnf
  (refine hp.call (lTen_spec hp.wf hk) ?_; clear hp; rintro _ s rfl hp _; conv => whnf)
  refine hp.alloc (cs := C2 0 0) (e := 1) rfl rfl rfl rfl rfl ?_
  clear hp
  intro p3 s hp _
  conv => whnf
  refine hp.storeW (vs := C2 (10 ^ k % w64) (10 ^ k / w64)) rfl (by repeat (first | exact Rm.here | apply Rm.there)) (C2_same ..) rfl rfl rfl ?_
  clear hp
  intro s hp _
  conv => whnf
  refine Sm.seqW ?_
  conv => whnf
  refine hp.loadA (l := C2 (10 ^ k % w64) (10 ^ k / w64)) (by repeat (first | exact Has.here | apply Has.there | (apply Has.swap; repeat (first | exact HasR.here | apply HasR.there)))) rfl (by rfl) rfl rfl ?_
  conv => whnf
  refine hp.storeW (vs := C2 (10 ^ k % w64) (10 ^ k / w64)) rfl (by repeat (first | exact Rm.here | apply Rm.there)) (C2_same ..) rfl rfl rfl ?_
  clear hp
  intro s hp _
  conv => whnf
  refine Sm.ofW ?_
  conv => whnf
  refine hp.loadA (l := C2 (10 ^ k % w64) (10 ^ k / w64)) (by repeat (first | exact Has.here | apply Has.there | (apply Has.swap; repeat (first | exact HasR.here | apply HasR.there)))) rfl (by rfl) rfl rfl ?_
  conv => whnf
  exact ⟨hp.fr, rfl⟩
/-- A number below ten to the thirtieth. -/
theorem small_spec {z : St} (wf : WF z) {n : Nat} (hn : n < w128) :
    Cw Tryz.prog 78 [W2 n] z fun r s' => K0 z s' ∧ r = .bool (decide (n < 10 ^ 30)) := by
  have hp : Hp (fun _ => False) z [] [] z := Hp.start _ wf _ (by simp)
  refine Cw.enterS Tryz.func78 rfl rfl ?_
  refine Sm.seqW ?_
  conv => whnf
  refine hp.var (cs := C2 (n % w64) (n / w64)) (e := 1) rfl rfl ?_
  clear hp
  intro p1 s hp _
  conv => whnf
  refine Sm.seqW ?_
  conv => whnf
  refine ⟨[0, 0, 3, 7, 15], by decide +kernel, by decide +kernel, ?_⟩
  conv => whnf
  refine hp.loadA (l := C2 (n % w64) (n / w64)) (by repeat (first | exact Has.here | apply Has.there | (apply Has.swap; repeat (first | exact HasR.here | apply HasR.there)))) rfl (by rfl) rfl rfl ?_
  conv => whnf
  (refine hp.rst.call (dten_spec hp.rst.wf (k := 30) (by decide)) ?_; rintro _ s1 rfl h1 k1; (conv => whnf); refine hp.dkN h1 k1 ?_; clear hp h1 k1; intro s hp; conv => whnf)
  (refine hp.rst.call (lCmp_spec hp.rst.wf (a := n) (b := 10 ^ 30) hn (ten_lt (by decide))) ?_; rintro _ s1 rfl h1 k1; (conv => whnf); refine hp.dkN h1 k1 ?_; clear hp h1 k1; intro s hp; conv => whnf)
  refine Sm.ofW ?_
  conv => whnf
  refine ⟨hp.fr, congrArg Value.bool ?_⟩
  apply decide_eq_decide.2
  unfold cmpI
  by_cases h : n < 10 ^ 30
  · rw [if_pos h]; simp [h]
  · rw [if_neg h]
    split <;> simp [h]
theorem arr_e (a b a' b' : Nat) : evEq Tryz.prog 10000 33 (A2 a b) (A2 a' b') = some (((a : Int) == (a' : Int)) && ((b : Int) == (b' : Int))) := by
  have e : ∀ p q : Bool, ((a : Int) == (a' : Int)) = p → ((b : Int) == (b' : Int)) = q → evEq Tryz.prog 10000 33 (A2 a b) (A2 a' b') = some (p && q) := by
    intro p q h1 h2
    conv => lhs; whnf
    show (match (some ((a : Int) == (a' : Int)) : Option Bool) with | some true => (match (some ((b : Int) == (b' : Int)) : Option Bool) with | some true => some true | some false => some false | none => none) | some false => some false | none => none) = _
    rw [h1, h2]
    cases p <;> cases q <;> rfl
  exact e _ _ rfl rfl
theorem arr_eq (a b a' b' : Nat) (c : Bool) : evBin Tryz.prog .eql 33 c (A2 a b) (A2 a' b') = some (.bool (((a : Int) == (a' : Int)) && ((b : Int) == (b' : Int)))) := by
  have hg : Tryz.prog.eqGuardType Tryz.prog.depth 33 = false := by decide +kernel
  show (match !(Tryz.prog.eqGuardType Tryz.prog.depth 33) with | false => none | true => (match evEq Tryz.prog 10000 33 (A2 a b) (A2 a' b') with | some b => some (Value.bool b) | none => none)) = _
  rw [hg, arr_e]; rfl
theorem zero_iff (n : Nat) : (((n % w64 : Nat) : Int) == ((0 : Nat) : Int) && ((n / w64 : Nat) : Int) == ((0 : Nat) : Int)) = decide (n = 0) := by
  by_cases h : n = 0
  · subst h; rfl
  · rw [decide_eq_false h, Bool.and_eq_false_iff]
    by_cases h1 : n % w64 = 0
    · right
      rw [beq_eq_false_iff_ne]
      intro h2
      apply h
      have h2 : n / w64 = 0 := Int.ofNat.inj h2
      simp only [w64] at *; omega
    · left
      rw [beq_eq_false_iff_ne]
      intro h2
      exact h1 (Int.ofNat.inj h2)
theorem z_eq (n : Nat) (c : Bool) : evBin Tryz.prog .eql 33 c (W2 n) (A2 0 0) = some (.bool (decide (n = 0))) := by
  unfold W2; rw [arr_eq, zero_iff]
theorem nought_spec {z : St} (wf : WF z) (n : Nat) :
    Cw Tryz.prog 79 [W2 n] z fun r s' => K0 z s' ∧ r = .bool (decide (n = 0)) := by
  have hp : Hp (fun _ => False) z [] [] z := Hp.start _ wf _ (by simp)
  refine Cw.enterS Tryz.func79 rfl rfl ?_
  refine Sm.seqW ?_
  conv => whnf
  refine hp.var (cs := C2 (n % w64) (n / w64)) (e := 1) rfl rfl ?_
  clear hp
  intro p1 s hp _
  conv => whnf
  refine Sm.seqW ?_
  conv => whnf
  refine hp.loadA (l := C2 (n % w64) (n / w64)) (by repeat (first | exact Has.here | apply Has.there | (apply Has.swap; repeat (first | exact HasR.here | apply HasR.there)))) rfl (by rfl) rfl rfl ?_
  conv => whnf
  refine Om.of _ (z_eq n _) ?_
  conv => whnf
  refine Sm.ofW ?_
  conv => whnf
  exact ⟨hp.fr, rfl⟩
/-- A decimal. -/
structure Dc where
  neg : Bool
  c : Nat
  scale : Int
def Dc.cells (d : Dc) : List Value := [.bool d.neg, .int .u64 ((d.c % w64 : Nat) : Int), .int .u64 ((d.c / w64 : Nat) : Int), .int .i64 d.scale]
def Dc.val (d : Dc) : Value := .agg #[.bool d.neg, .int .u64 ((d.c % w64 : Nat) : Int), .int .u64 ((d.c / w64 : Nat) : Int), .int .i64 d.scale]
def Dc.right (d : Dc) : Bool := decide (d.c < 10 ^ 30) && (decide (d.scale ≥ 0) && (decide (d.scale ≤ 9) && !(d.neg && decide (d.c = 0))))
theorem right_spec {z : St} (wf : WF z) (d : Dc) (hd : d.c < w128) :
    Cw Tryz.prog 63 [d.val] z fun r s' => K0 z s' ∧ r = .bool d.right := by
  have hp : Hp (fun _ => False) z [] [] z := Hp.start _ wf _ (by simp)
  obtain ⟨ng, n, sc⟩ := d
  simp only at hd
  refine Cw.enterS Tryz.func63 rfl rfl ?_
  refine Sm.seqW ?_
  conv => whnf
  refine hp.var (cs := Dc.cells ⟨ng, n, sc⟩) (e := 4) rfl rfl ?_
  clear hp
  intro p1 s hp _
  conv => whnf
  refine Sm.live [1] ?_
  conv => whnf
  refine Sm.seqW ?_
  conv => whnf
  refine hp.loadA (off := 1) (l := C2 (n % w64) (n / w64)) (by repeat (first | exact Has.here | apply Has.there | (apply Has.swap; repeat (first | exact HasR.here | apply HasR.there)))) rfl (by rfl) rfl rfl ?_
  conv => whnf
  (refine hp.call (small_spec hp.wf hd) ?_; clear hp; rintro _ s rfl hp _; conv => whnf)
  cases h1 : decide (n < 10 ^ 30) with
  | false =>
    repeat (first | (refine Br.yes (by first | with_reducible rfl | with_reducible exact beq_self_eq_true _ | rfl) ?_; conv => whnf) | (refine Br.no (by first | with_reducible rfl | with_reducible exact bne_self_eq_false _ | rfl) ?_; conv => whnf))
    refine Sm.ofW ?_
    conv => whnf
    exact ⟨hp.fr, congrArg Value.bool (by unfold Dc.right; rw [h1]; rfl)⟩
  | true =>
    repeat (first | (refine Br.yes (by first | with_reducible rfl | with_reducible exact beq_self_eq_true _ | rfl) ?_; conv => whnf) | (refine Br.no (by first | with_reducible rfl | with_reducible exact bne_self_eq_false _ | rfl) ?_; conv => whnf))
    refine hp.load (off := 3) (v := .int .i64 sc) (by repeat (first | exact Has.here | apply Has.there | (apply Has.swap; repeat (first | exact HasR.here | apply HasR.there)))) (by rfl) rfl rfl rfl ?_
    conv => whnf
    repeat (first | (refine Br.yes (by first | with_reducible rfl | with_reducible exact beq_self_eq_true _ | rfl) ?_; conv => whnf) | (refine Br.no (by first | with_reducible rfl | with_reducible exact bne_self_eq_false _ | rfl) ?_; conv => whnf))
    cases h2 : decide (sc ≥ 0) with
    | false =>
      repeat (first | (refine Br.yes (by first | with_reducible rfl | with_reducible exact beq_self_eq_true _ | rfl) ?_; conv => whnf) | (refine Br.no (by first | with_reducible rfl | with_reducible exact bne_self_eq_false _ | rfl) ?_; conv => whnf))
      refine Sm.ofW ?_
      conv => whnf
      exact ⟨hp.fr, congrArg Value.bool (by unfold Dc.right; rw [h1, h2]; rfl)⟩
    | true =>
      repeat (first | (refine Br.yes (by first | with_reducible rfl | with_reducible exact beq_self_eq_true _ | rfl) ?_; conv => whnf) | (refine Br.no (by first | with_reducible rfl | with_reducible exact bne_self_eq_false _ | rfl) ?_; conv => whnf))
      refine hp.load (off := 3) (v := .int .i64 sc) (by repeat (first | exact Has.here | apply Has.there | (apply Has.swap; repeat (first | exact HasR.here | apply HasR.there)))) (by rfl) rfl rfl rfl ?_
      conv => whnf
      repeat (first | (refine Br.yes (by first | with_reducible rfl | with_reducible exact beq_self_eq_true _ | rfl) ?_; conv => whnf) | (refine Br.no (by first | with_reducible rfl | with_reducible exact bne_self_eq_false _ | rfl) ?_; conv => whnf))
      cases h3 : decide (sc ≤ 9) with
      | false =>
        repeat (first | (refine Br.yes (by first | with_reducible rfl | with_reducible exact beq_self_eq_true _ | rfl) ?_; conv => whnf) | (refine Br.no (by first | with_reducible rfl | with_reducible exact bne_self_eq_false _ | rfl) ?_; conv => whnf))
        refine Sm.ofW ?_
        conv => whnf
        exact ⟨hp.fr, congrArg Value.bool (by unfold Dc.right; rw [h1, h2, h3]; rfl)⟩
      | true =>
        repeat (first | (refine Br.yes (by first | with_reducible rfl | with_reducible exact beq_self_eq_true _ | rfl) ?_; conv => whnf) | (refine Br.no (by first | with_reducible rfl | with_reducible exact bne_self_eq_false _ | rfl) ?_; conv => whnf))
        refine hp.load (off := 0) (v := .bool ng) (by repeat (first | exact Has.here | apply Has.there | (apply Has.swap; repeat (first | exact HasR.here | apply HasR.there)))) (by rfl) rfl rfl rfl ?_
        conv => whnf
        cases ng with
        | false =>
          repeat (first | (refine Br.yes (by first | with_reducible rfl | with_reducible exact beq_self_eq_true _ | rfl) ?_; conv => whnf) | (refine Br.no (by first | with_reducible rfl | with_reducible exact bne_self_eq_false _ | rfl) ?_; conv => whnf))
          refine Sm.ofW ?_
          conv => whnf
          exact ⟨hp.fr, congrArg Value.bool (by unfold Dc.right; rw [h1, h2, h3]; rfl)⟩
        | true =>
          repeat (first | (refine Br.yes (by first | with_reducible rfl | with_reducible exact beq_self_eq_true _ | rfl) ?_; conv => whnf) | (refine Br.no (by first | with_reducible rfl | with_reducible exact bne_self_eq_false _ | rfl) ?_; conv => whnf))
          refine hp.loadA (off := 1) (l := C2 (n % w64) (n / w64)) (by repeat (first | exact Has.here | apply Has.there | (apply Has.swap; repeat (first | exact HasR.here | apply HasR.there)))) rfl (by rfl) rfl rfl ?_
          conv => whnf
          repeat (first | (refine Br.yes (by first | with_reducible rfl | with_reducible exact beq_self_eq_true _ | rfl) ?_; conv => whnf) | (refine Br.no (by first | with_reducible rfl | with_reducible exact bne_self_eq_false _ | rfl) ?_; conv => whnf))
          (refine hp.call (nought_spec hp.wf n) ?_; clear hp; rintro _ s rfl hp _; conv => whnf)
          repeat (first | (refine Br.yes (by first | with_reducible rfl | with_reducible exact beq_self_eq_true _ | rfl) ?_; conv => whnf) | (refine Br.no (by first | with_reducible rfl | with_reducible exact bne_self_eq_false _ | rfl) ?_; conv => whnf))
          cases h4 : decide (n = 0) with
          | false =>
            repeat (first | (refine Br.yes (by first | with_reducible rfl | with_reducible exact beq_self_eq_true _ | rfl) ?_; conv => whnf) | (refine Br.no (by first | with_reducible rfl | with_reducible exact bne_self_eq_false _ | rfl) ?_; conv => whnf))
            refine Sm.ofW ?_
            conv => whnf
            exact ⟨hp.fr, congrArg Value.bool (by unfold Dc.right; rw [h1, h2, h3, h4]; rfl)⟩
          | true =>
            repeat (first | (refine Br.yes (by first | with_reducible rfl | with_reducible exact beq_self_eq_true _ | rfl) ?_; conv => whnf) | (refine Br.no (by first | with_reducible rfl | with_reducible exact bne_self_eq_false _ | rfl) ?_; conv => whnf))
            refine Sm.ofW ?_
            conv => whnf
            exact ⟨hp.fr, congrArg Value.bool (by unfold Dc.right; rw [h1, h2, h3, h4]; rfl)⟩
end Go.Ev
end

/- Decimals: made, Neg, Sign. No condition. -/
noncomputable section
namespace Go.Ev
open Go.Proofs
variable [Lk]
set_option linter.unusedSectionVars false
set_option linter.unusedVariables false
set_option maxRecDepth 100000

def Dc.zero : Dc := ⟨false, 0, 0⟩
def okD (d : Dc) : Value := .tuple #[d.val, .int .i64 0]
def errD (e : Int) : Value := .tuple #[Dc.zero.val, .int .i64 e]
def dmade (neg : Bool) (n : Nat) (sc : Int) : Value := if n < 10 ^ 30 then okD ⟨neg && !decide (n = 0), n, sc⟩ else errD 3
theorem Dc_same (a b : Dc) : a.cells.length = b.cells.length := rfl
theorem dmade_spec {z : St} (wf : WF z) (neg : Bool) {n : Nat} (hn : n < w256) (sc : Int) :
    Cw Tryz.prog 65 [.bool neg, W4 n, .int .i64 sc] z fun r s' => K0 z s' ∧ r = dmade neg n sc := by
  have hp : Hp (fun _ => False) z [] [] z := Hp.start _ wf _ (by simp)
  refine Cw.enterS Tryz.func65 rfl rfl ?_
  refine Sm.seqW ?_
  conv => whnf
  refine hp.var (cs := C4 (n % w64) (n / w64 % w64) (n / w128 % w64) (n / w192)) (e := 1) rfl rfl ?_
  clear hp
  intro p1 s hp _
  conv => whnf
  refine hp.alloc (cs := Dc.zero.cells) (e := 4) rfl rfl rfl rfl rfl ?_
  clear hp
  intro p6 s hp _
  conv => whnf
  refine Sm.live [0, 2, 4, 6, 7] ?_
  conv => whnf
  refine Sm.seqW ?_
  conv => whnf
  refine hp.loadA (l := C4 (n % w64) (n / w64 % w64) (n / w128 % w64) (n / w192)) (by repeat (first | exact Has.here | apply Has.there | (apply Has.swap; repeat (first | exact HasR.here | apply HasR.there)))) rfl (by rfl) rfl rfl ?_
  conv => whnf
  have hbig : 10 ^ 30 < w128 := by decide
  by_cases hs : n < w128
  · (refine hp.call (lShort_ok hp.wf (n := n) hs) ?_; clear hp; rintro _ s rfl hp _; conv => whnf)
    refine hp.alloc (cs := C2 0 0) (e := 1) rfl rfl rfl rfl rfl ?_
    clear hp
    intro p8 s hp _
    conv => whnf
    refine hp.storeW (vs := C2 (n % w64) (n / w64)) rfl (by repeat (first | exact Rm.here | apply Rm.there)) (C2_same ..) rfl rfl rfl ?_
    clear hp
    intro s hp _
    conv => whnf
    refine Sm.live [0, 2, 6, 7, 8, 9] ?_
    conv => whnf
    refine Sm.seq ?_
    refine Sm.seqW ?_
    conv => whnf
    repeat (first | (refine Br.yes (by first | with_reducible rfl | with_reducible exact beq_self_eq_true _ | rfl) ?_; conv => whnf) | (refine Br.no (by first | with_reducible rfl | with_reducible exact bne_self_eq_false _ | rfl) ?_; conv => whnf))
    refine hp.loadA (l := C2 (n % w64) (n / w64)) (by repeat (first | exact Has.here | apply Has.there | (apply Has.swap; repeat (first | exact HasR.here | apply HasR.there)))) rfl (by rfl) rfl rfl ?_
    conv => whnf
    repeat (first | (refine Br.yes (by first | with_reducible rfl | with_reducible exact beq_self_eq_true _ | rfl) ?_; conv => whnf) | (refine Br.no (by first | with_reducible rfl | with_reducible exact bne_self_eq_false _ | rfl) ?_; conv => whnf))
    (refine hp.call (small_spec hp.wf hs) ?_; clear hp; rintro _ s rfl hp _; conv => whnf)
    by_cases h30 : n < 10 ^ 30
    · rw [decide_eq_true h30]
      repeat (first | (refine Br.yes (by first | with_reducible rfl | with_reducible exact beq_self_eq_true _ | rfl) ?_; conv => whnf) | (refine Br.no (by first | with_reducible rfl | with_reducible exact bne_self_eq_false _ | rfl) ?_; conv => whnf))
      refine Sm.ofW ?_
      conv => whnf
      repeat (first | (refine Br.yes (by first | with_reducible rfl | with_reducible exact beq_self_eq_true _ | rfl) ?_; conv => whnf) | (refine Br.no (by first | with_reducible rfl | with_reducible exact bne_self_eq_false _ | rfl) ?_; conv => whnf))
      refine Sm.live [0, 2, 6, 7, 8] ?_
      conv => whnf
      refine Sm.seqW ?_
      conv => whnf
      refine ⟨[0, 1, 3, 7, 15, 31, 0, 0, 255, 511, 1023], by decide +kernel, by decide +kernel, ?_⟩
      conv => whnf
      unfold dmade
      rw [if_pos h30]
      cases neg with
      | false =>
        repeat (first | (refine Br.yes (by first | with_reducible rfl | with_reducible exact beq_self_eq_true _ | rfl) ?_; conv => whnf) | (refine Br.no (by first | with_reducible rfl | with_reducible exact bne_self_eq_false _ | rfl) ?_; conv => whnf))
        refine hp.loadA (l := C2 (n % w64) (n / w64)) (by repeat (first | exact Has.here | apply Has.there | (apply Has.swap; repeat (first | exact HasR.here | apply HasR.there)))) rfl (by rfl) rfl rfl ?_
        conv => whnf
        refine hp.rst.storeW (vs := Dc.cells ⟨false && !decide (n = 0), n, sc⟩) rfl (by repeat (first | exact Rm.here | apply Rm.there)) (Dc_same _ Dc.zero) rfl rfl rfl ?_
        intro s1 h1 l1
        conv => whnf
        refine hp.dkW h1 l1 ?_
        clear hp h1 l1
        intro s hp
        conv => whnf
        refine Sm.ofW ?_
        conv => whnf
        refine hp.loadA (l := Dc.cells ⟨false && !decide (n = 0), n, sc⟩) (by repeat (first | exact Has.here | apply Has.there | (apply Has.swap; repeat (first | exact HasR.here | apply HasR.there)))) rfl (by rfl) rfl rfl ?_
        conv => whnf
        exact ⟨hp.fr, rfl⟩
      | true =>
        repeat (first | (refine Br.yes (by first | with_reducible rfl | with_reducible exact beq_self_eq_true _ | rfl) ?_; conv => whnf) | (refine Br.no (by first | with_reducible rfl | with_reducible exact bne_self_eq_false _ | rfl) ?_; conv => whnf))
        refine hp.loadA (l := C2 (n % w64) (n / w64)) (by repeat (first | exact Has.here | apply Has.there | (apply Has.swap; repeat (first | exact HasR.here | apply HasR.there)))) rfl (by rfl) rfl rfl ?_
        conv => whnf
        repeat (first | (refine Br.yes (by first | with_reducible rfl | with_reducible exact beq_self_eq_true _ | rfl) ?_; conv => whnf) | (refine Br.no (by first | with_reducible rfl | with_reducible exact bne_self_eq_false _ | rfl) ?_; conv => whnf))
        (refine hp.rst.call (nought_spec hp.rst.wf n) ?_; rintro _ s1 rfl h1 k1; (conv => whnf); refine hp.dkN h1 k1 ?_; clear hp h1 k1; intro s hp; conv => whnf)
        repeat (first | (refine Br.yes (by first | with_reducible rfl | with_reducible exact beq_self_eq_true _ | rfl) ?_; conv => whnf) | (refine Br.no (by first | with_reducible rfl | with_reducible exact bne_self_eq_false _ | rfl) ?_; conv => whnf))
        refine hp.loadA (l := C2 (n % w64) (n / w64)) (by repeat (first | exact Has.here | apply Has.there | (apply Has.swap; repeat (first | exact HasR.here | apply HasR.there)))) rfl (by rfl) rfl rfl ?_
        conv => whnf
        refine hp.rst.storeW (vs := Dc.cells ⟨true && !decide (n = 0), n, sc⟩) rfl (by repeat (first | exact Rm.here | apply Rm.there)) (Dc_same _ Dc.zero) rfl rfl rfl ?_
        intro s1 h1 l1
        conv => whnf
        refine hp.dkW h1 l1 ?_
        clear hp h1 l1
        intro s hp
        conv => whnf
        refine Sm.ofW ?_
        conv => whnf
        refine hp.loadA (l := Dc.cells ⟨true && !decide (n = 0), n, sc⟩) (by repeat (first | exact Has.here | apply Has.there | (apply Has.swap; repeat (first | exact HasR.here | apply HasR.there)))) rfl (by rfl) rfl rfl ?_
        conv => whnf
        exact ⟨hp.fr, rfl⟩
    · rw [decide_eq_false h30]
      repeat (first | (refine Br.yes (by first | with_reducible rfl | with_reducible exact beq_self_eq_true _ | rfl) ?_; conv => whnf) | (refine Br.no (by first | with_reducible rfl | with_reducible exact bne_self_eq_false _ | rfl) ?_; conv => whnf))
      refine Sm.ofW ?_
      conv => whnf
      repeat (first | (refine Br.yes (by first | with_reducible rfl | with_reducible exact beq_self_eq_true _ | rfl) ?_; conv => whnf) | (refine Br.no (by first | with_reducible rfl | with_reducible exact bne_self_eq_false _ | rfl) ?_; conv => whnf))
      unfold dmade
      rw [if_neg h30]
      refine hp.storeW (vs := Dc.zero.cells) rfl (by repeat (first | exact Rm.here | apply Rm.there)) (Dc_same _ Dc.zero) rfl rfl rfl ?_
      clear hp
      intro s hp _
      conv => whnf
      refine hp.loadA (l := Dc.zero.cells) (by repeat (first | exact Has.here | apply Has.there | (apply Has.swap; repeat (first | exact HasR.here | apply HasR.there)))) rfl (by rfl) rfl rfl ?_
      conv => whnf
      exact ⟨hp.fr, rfl⟩
  · (refine hp.call (lShort_no hp.wf (n := n) hs hn) ?_; clear hp; rintro _ s rfl hp _; conv => whnf)
    refine hp.alloc (cs := C2 0 0) (e := 1) rfl rfl rfl rfl rfl ?_
    clear hp
    intro p8 s hp _
    conv => whnf
    refine hp.storeW (vs := C2 0 0) rfl (by repeat (first | exact Rm.here | apply Rm.there)) (C2_same ..) rfl rfl rfl ?_
    clear hp
    intro s hp _
    conv => whnf
    refine Sm.live [0, 2, 6, 7, 8, 9] ?_
    conv => whnf
    refine Sm.seq ?_
    refine Sm.seqW ?_
    conv => whnf
    repeat (first | (refine Br.yes (by first | with_reducible rfl | with_reducible exact beq_self_eq_true _ | rfl) ?_; conv => whnf) | (refine Br.no (by first | with_reducible rfl | with_reducible exact bne_self_eq_false _ | rfl) ?_; conv => whnf))
    refine Sm.ofW ?_
    conv => whnf
    repeat (first | (refine Br.yes (by first | with_reducible rfl | with_reducible exact beq_self_eq_true _ | rfl) ?_; conv => whnf) | (refine Br.no (by first | with_reducible rfl | with_reducible exact bne_self_eq_false _ | rfl) ?_; conv => whnf))
    unfold dmade
    rw [if_neg (by omega)]
    refine hp.storeW (vs := Dc.zero.cells) rfl (by repeat (first | exact Rm.here | apply Rm.there)) (Dc_same _ Dc.zero) rfl rfl rfl ?_
    clear hp
    intro s hp _
    conv => whnf
    refine hp.loadA (l := Dc.zero.cells) (by repeat (first | exact Has.here | apply Has.there | (apply Has.swap; repeat (first | exact HasR.here | apply HasR.there)))) rfl (by rfl) rfl rfl ?_
    conv => whnf
    exact ⟨hp.fr, rfl⟩
end Go.Ev
end

/- Decimals: Neg, Sign, wide, Scaled. No condition. -/
noncomputable section
namespace Go.Ev
open Go.Proofs
variable [Lk]
set_option linter.unusedSectionVars false
set_option linter.unusedVariables false
set_option maxRecDepth 100000

def signF (d : Dc) : Int := if d.right = false ∨ d.c = 0 then 0 else if d.neg = true then -1 else 1
theorem dsign_spec {z : St} (wf : WF z) (d : Dc) (hd : d.c < w128) :
    Cw Tryz.prog 69 [d.val] z fun r s' => K0 z s' ∧ r = .int .i64 (signF d) := by
  have hp : Hp (fun _ => False) z [] [] z := Hp.start _ wf _ (by simp)
  refine Cw.enterS Tryz.func69 rfl rfl ?_
  refine Sm.seqW ?_
  conv => whnf
  refine hp.var (cs := d.cells) (e := 4) rfl rfl ?_
  clear hp
  intro p1 s hp _
  conv => whnf
  refine Sm.seq (Sm.block ?_)
  refine Sm.seqW ?_
  conv => whnf
  refine hp.loadA (l := d.cells) (by repeat (first | exact Has.here | apply Has.there | (apply Has.swap; repeat (first | exact HasR.here | apply HasR.there)))) rfl (by rfl) rfl rfl ?_
  conv => whnf
  (refine hp.call (right_spec hp.wf d hd) ?_; clear hp; rintro _ s rfl hp _; conv => whnf)
  cases hr : d.right with
  | false =>
    repeat (first | (refine Br.yes (by first | with_reducible rfl | with_reducible exact beq_self_eq_true _ | rfl) ?_; conv => whnf) | (refine Br.no (by first | with_reducible rfl | with_reducible exact bne_self_eq_false _ | rfl) ?_; conv => whnf))
    refine Sm.ofW ?_
    conv => whnf
    repeat (first | (refine Br.yes (by first | with_reducible rfl | with_reducible exact beq_self_eq_true _ | rfl) ?_; conv => whnf) | (refine Br.no (by first | with_reducible rfl | with_reducible exact bne_self_eq_false _ | rfl) ?_; conv => whnf))
    exact ⟨hp.fr, congrArg (Value.int .i64) (by unfold signF; rw [if_pos (.inl hr)])⟩
  | true =>
    obtain ⟨ng, n, sc⟩ := d
    simp only at hd
    repeat (first | (refine Br.yes (by first | with_reducible rfl | with_reducible exact beq_self_eq_true _ | rfl) ?_; conv => whnf) | (refine Br.no (by first | with_reducible rfl | with_reducible exact bne_self_eq_false _ | rfl) ?_; conv => whnf))
    refine hp.loadA (off := 1) (l := C2 (n % w64) (n / w64)) (by repeat (first | exact Has.here | apply Has.there | (apply Has.swap; repeat (first | exact HasR.here | apply HasR.there)))) rfl (by rfl) rfl rfl ?_
    conv => whnf
    repeat (first | (refine Br.yes (by first | with_reducible rfl | with_reducible exact beq_self_eq_true _ | rfl) ?_; conv => whnf) | (refine Br.no (by first | with_reducible rfl | with_reducible exact bne_self_eq_false _ | rfl) ?_; conv => whnf))
    (refine hp.call (nought_spec hp.wf n) ?_; clear hp; rintro _ s rfl hp _; conv => whnf)
    by_cases hn : n = 0
    · rw [decide_eq_true hn]
      repeat (first | (refine Br.yes (by first | with_reducible rfl | with_reducible exact beq_self_eq_true _ | rfl) ?_; conv => whnf) | (refine Br.no (by first | with_reducible rfl | with_reducible exact bne_self_eq_false _ | rfl) ?_; conv => whnf))
      refine Sm.ofW ?_
      conv => whnf
      repeat (first | (refine Br.yes (by first | with_reducible rfl | with_reducible exact beq_self_eq_true _ | rfl) ?_; conv => whnf) | (refine Br.no (by first | with_reducible rfl | with_reducible exact bne_self_eq_false _ | rfl) ?_; conv => whnf))
      exact ⟨hp.fr, congrArg (Value.int .i64) (by unfold signF; rw [if_pos (.inr hn)])⟩
    · rw [decide_eq_false hn]
      repeat (first | (refine Br.yes (by first | with_reducible rfl | with_reducible exact beq_self_eq_true _ | rfl) ?_; conv => whnf) | (refine Br.no (by first | with_reducible rfl | with_reducible exact bne_self_eq_false _ | rfl) ?_; conv => whnf))
      refine Sm.ofW ?_
      conv => whnf
      repeat (first | (refine Br.yes (by first | with_reducible rfl | with_reducible exact beq_self_eq_true _ | rfl) ?_; conv => whnf) | (refine Br.no (by first | with_reducible rfl | with_reducible exact bne_self_eq_false _ | rfl) ?_; conv => whnf))
      refine hp.load (off := 0) (v := .bool ng) (by repeat (first | exact Has.here | apply Has.there | (apply Has.swap; repeat (first | exact HasR.here | apply HasR.there)))) (by rfl) rfl rfl rfl ?_
      conv => whnf
      cases ng with
      | true =>
        repeat (first | (refine Br.yes (by first | with_reducible rfl | with_reducible exact beq_self_eq_true _ | rfl) ?_; conv => whnf) | (refine Br.no (by first | with_reducible rfl | with_reducible exact bne_self_eq_false _ | rfl) ?_; conv => whnf))
        exact ⟨hp.fr, congrArg (Value.int .i64) (by unfold signF; rw [if_neg (by rw [hr]; simp [hn]), if_pos rfl])⟩
      | false =>
        repeat (first | (refine Br.yes (by first | with_reducible rfl | with_reducible exact beq_self_eq_true _ | rfl) ?_; conv => whnf) | (refine Br.no (by first | with_reducible rfl | with_reducible exact bne_self_eq_false _ | rfl) ?_; conv => whnf))
        refine Sm.ofW ?_
        conv => whnf
        exact ⟨hp.fr, congrArg (Value.int .i64) (by unfold signF; rw [if_neg (by rw [hr]; simp [hn]), if_neg (by simp)])⟩
theorem dwide_spec {z : St} (wf : WF z) (d : Dc) (hd : d.c < w128) {k : Nat} (hk : k ≤ 38) {sc : Int} (hsc : sc = d.scale + k) (h1 : inR d.scale) :
    Cw Tryz.prog 64 [d.val, .int .i64 sc] z fun r s' => K0 z s' ∧ r = W4 (d.c * 10 ^ k) := by
  have hp : Hp (fun _ => False) z [] [] z := Hp.start _ wf _ (by simp)
  obtain ⟨ng, n, e⟩ := d
  simp only at hd hsc h1 ⊢
  subst hsc
  have ee : IntKind.i64.wrap (e + (k : Int) - e) = (k : Int) := by rw [wi64 (by omega) (by omega)]; omega
  refine Cw.enterS Tryz.func64 rfl rfl ?_
  refine Sm.seqW ?_
  conv => whnf
  refine hp.var (cs := Dc.cells ⟨ng, n, e⟩) (e := 4) rfl rfl ?_
  clear hp
  intro p1 s hp _
  conv => whnf
  refine hp.alloc (cs := C4 0 0 0 0) (e := 1) rfl rfl rfl rfl rfl ?_
  clear hp
  intro p4 s hp _
  conv => whnf
  refine Sm.live [1, 2, 4] ?_
  conv => whnf
  refine Sm.seqW ?_
  conv => whnf
  refine ⟨[0, 1, 0, 0, 8, 28, 60, 127, 255], by decide +kernel, by decide +kernel, ?_⟩
  conv => whnf
  refine hp.loadA (off := 1) (l := C2 (n % w64) (n / w64)) (by repeat (first | exact Has.here | apply Has.there | (apply Has.swap; repeat (first | exact HasR.here | apply HasR.there)))) rfl (by rfl) rfl rfl ?_
  conv => whnf
  refine hp.load (off := 3) (v := .int .i64 e) (by repeat (first | exact Has.here | apply Has.there | (apply Has.swap; repeat (first | exact HasR.here | apply HasR.there)))) (by rfl) rfl rfl rfl ?_
  conv => whnf
  rw [ee]
  (refine hp.rst.call (dten_spec hp.rst.wf hk) ?_; rintro _ s1 rfl h1 k1; (conv => whnf); refine hp.dkN h1 k1 ?_; clear hp h1 k1; intro s hp; conv => whnf)
  (refine hp.rst.call (lMul_spec hp.rst.wf (a := n) (b := 10 ^ k) hd (ten_lt hk)) ?_; rintro _ s1 rfl h1 k1; (conv => whnf); refine hp.dkN h1 k1 ?_; clear hp h1 k1; intro s hp; conv => whnf)
  generalize n * 10 ^ k = N
  refine hp.rst.storeW (vs := C4 (N % w64) (N / w64 % w64) (N / w128 % w64) (N / w192)) rfl (by repeat (first | exact Rm.here | apply Rm.there)) (C4_same ..) rfl rfl rfl ?_
  intro s1 h1 l1
  conv => whnf
  refine hp.dkW h1 l1 ?_
  clear hp h1 l1
  intro s hp
  conv => whnf
  refine Sm.ofW ?_
  conv => whnf
  refine hp.loadA (l := C4 (N % w64) (N / w64 % w64) (N / w128 % w64) (N / w192)) (by repeat (first | exact Has.here | apply Has.there | (apply Has.swap; repeat (first | exact HasR.here | apply HasR.there)))) rfl (by rfl) rfl rfl ?_
  conv => whnf
  exact ⟨hp.fr, rfl⟩
end Go.Ev
end

/- Decimals: Scaled; what is nearer, what is farther. No condition. -/
noncomputable section
namespace Go.Ev
open Go.Proofs
variable [Lk]
set_option linter.unusedSectionVars false
set_option linter.unusedVariables false
set_option maxRecDepth 100000

theorem Dc.right_c {d : Dc} (h : d.right = true) : d.c < 10 ^ 30 ∧ 0 ≤ d.scale ∧ d.scale ≤ 9 := by
  unfold Dc.right at h
  simp only [Bool.and_eq_true, decide_eq_true_eq] at h
  exact ⟨h.1, h.2.1, h.2.2.1⟩
theorem dmade_shape (neg : Bool) (n : Nat) (sc : Int) : ∃ (d : Dc) (e : Int), dmade neg n sc = .tuple #[d.val, .int .i64 e] := by
  unfold dmade
  split
  · exact ⟨_, _, rfl⟩
  · exact ⟨_, _, rfl⟩
theorem lSub_ok {z : St} (wf : WF z) {a b : Nat} (ha : a < w128) (hb : b < w128) (h : b ≤ a) :
    Cw Tryz.prog 116 [W2 a, W2 b] z fun r s' => K0 z s' ∧ r = .tuple #[W2 (a - b), .bool true] :=
  (lSub_spec wf ha hb).mono fun r s' ⟨h1, h2⟩ => ⟨h1, h2.trans (if_pos h)⟩
end Go.Ev
end

/- A long division, bit by bit, without a program. No condition. -/
noncomputable section
namespace Go.Ev
open Go.Proofs
variable [Lk]
set_option linter.unusedSectionVars false
set_option linter.unusedVariables false
set_option maxRecDepth 100000

/-- A word of a number. -/
def wd (Q i : Nat) : Nat := Q / 2 ^ (64 * i) % 2 ^ 64
def ws (Q : Nat) : List Nat := [wd Q 0, wd Q 1, wd Q 2, wd Q 3]
theorem ws_get (Q i : Nat) (hi : i < 4) : ∃ h : i < (ws Q).length, (ws Q)[i] = wd Q i := by
  refine ⟨hi, ?_⟩
  have hc : i = 0 ∨ i = 1 ∨ i = 2 ∨ i = 3 := by omega
  rcases hc with rfl | rfl | rfl | rfl <;> rfl
theorem w4_ws {Q : Nat} (h : Q < w256) : (C4 (Q % w64) (Q / w64 % w64) (Q / w128 % w64) (Q / w192)) = natU (ws Q) := by
  have e0 : wd Q 0 = Q % w64 := by
    unfold wd; rw [show (2 : Nat) ^ (64 * 0) = 1 by decide, show (2 : Nat) ^ 64 = w64 by decide, Nat.div_one]
  have e1 : wd Q 1 = Q / w64 % w64 := by
    unfold wd; rw [show (2 : Nat) ^ (64 * 1) = w64 by decide]
  have e2 : wd Q 2 = Q / w128 % w64 := by
    unfold wd; rw [show (2 : Nat) ^ (64 * 2) = w128 by decide, show (2 : Nat) ^ 64 = w64 by decide]
  have e3 : wd Q 3 = Q / w192 := by
    unfold wd; rw [show (2 : Nat) ^ (64 * 3) = w192 by decide, show (2 : Nat) ^ 64 = w64 by decide]
    apply Nat.mod_eq_of_lt
    rw [Nat.div_lt_iff_lt_mul (by decide), show w64 * w192 = w256 by decide]
    exact h
  unfold ws natU C4
  simp only [List.map_cons, List.map_nil, e0, e1, e2, e3]
end Go.Ev
end

/- Numbers of two words, further: Div walked. No condition. -/
noncomputable section
namespace Go.Ev
open Go.Proofs
variable [Lk]
set_option linter.unusedSectionVars false
set_option linter.unusedVariables false
set_option maxRecDepth 100000

theorem quo_nat {P : Program} {t : TypeId} {cst : Bool} {n m : Nat} (hm : 0 < m) (hn : n < 9223372036854775808) : evBin P .quo t cst (.int .i64 (n : Int)) (.int .i64 (m : Int)) = some (.int .i64 ((n / m : Nat) : Int)) := by
  show (match decide ((m : Int) = 0) with
    | true => none
    | false => some (Value.int .i64 (IntKind.i64.wrap ((n : Int).tdiv m)))) = _
  rw [decide_eq_false (by omega)]
  have : (n : Int).tdiv m = ((n / m : Nat) : Int) := by rw [Int.tdiv_eq_ediv_of_nonneg (by omega)]; push_cast; rfl
  have h2 : n / m ≤ n := Nat.div_le_self _ _
  rw [this]
  generalize n / m = q at h2
  simp only
  rw [wi64 (by omega) (by omega)]
theorem rem_nat {P : Program} {t : TypeId} {cst : Bool} {n m : Nat} (hm : 0 < m) : evBin P .rem t cst (.int .i64 (n : Int)) (.int .i64 (m : Int)) = some (.int .i64 ((n % m : Nat) : Int)) := by
  show (match decide ((m : Int) = 0) with
    | true => none
    | false => some (Value.int .i64 ((n : Int).tmod m))) = _
  rw [decide_eq_false (by omega)]
  have : (n : Int).tmod m = ((n % m : Nat) : Int) := by rw [Int.tmod_eq_emod_of_nonneg (by omega)]; push_cast; rfl
  rw [this]
end Go.Ev
end

/- Rounding: farther, made. No condition. -/
noncomputable section
namespace Go.Ev
open Go.Proofs
variable [Lk]
set_option linter.unusedSectionVars false
set_option linter.unusedVariables false
set_option maxRecDepth 100000

end Go.Ev
end

/- Rounding: rounded. No condition. -/
noncomputable section
namespace Go.Ev
open Go.Proofs
variable [Lk]
set_option linter.unusedSectionVars false
set_option linter.unusedVariables false
set_option maxRecDepth 100000

theorem lAdd_ok {z : St} (wf : WF z) {a b : Nat} (ha : a < w128) (hb : b < w128) (h : a + b < w128) :
    Cw Tryz.prog 77 [W2 a, W2 b] z fun r s' => K0 z s' ∧ r = .tuple #[W2 (a + b), .bool true] :=
  (lAdd_spec wf ha hb).mono fun r s' ⟨h1, h2⟩ => ⟨h1, h2.trans (if_pos h)⟩
theorem lAdd_no {z : St} (wf : WF z) {a b : Nat} (ha : a < w128) (hb : b < w128) (h : ¬ a + b < w128) :
    Cw Tryz.prog 77 [W2 a, W2 b] z fun r s' => K0 z s' ∧ r = .tuple #[W2 0, .bool false] :=
  (lAdd_spec wf ha hb).mono fun r s' ⟨h1, h2⟩ => ⟨h1, h2.trans (if_neg h)⟩
end Go.Ev
end

/- Rounding: are the arguments right? No condition. -/
noncomputable section
namespace Go.Ev
open Go.Proofs
variable [Lk]
set_option linter.unusedSectionVars false
set_option linter.unusedVariables false
set_option maxRecDepth 100000

end Go.Ev
end

/- Rounding: Quant. No condition. -/
noncomputable section
namespace Go.Ev
open Go.Proofs
variable [Lk]
set_option linter.unusedSectionVars false
set_option linter.unusedVariables false
set_option maxRecDepth 100000

end Go.Ev
end

/- Rounding: Div. No condition. -/
noncomputable section
namespace Go.Ev
open Go.Proofs
variable [Lk]
set_option linter.unusedSectionVars false
set_option linter.unusedVariables false
set_option maxRecDepth 100000

end Go.Ev
end

/- Rounding: Times. No condition. -/
noncomputable section
namespace Go.Ev
open Go.Proofs
variable [Lk]
set_option linter.unusedSectionVars false
set_option linter.unusedVariables false
set_option maxRecDepth 100000

end Go.Ev
end

/- Rounding: dec.Of; decimals that are alike; chapter 3's example. No condition. -/
noncomputable section
namespace Go.Ev
open Go.Proofs
variable [Lk]
set_option linter.unusedSectionVars false
set_option linter.unusedVariables false
set_option maxRecDepth 100000

def ofD (n sc : Int) : Dc := ⟨decide (n < 0), n.natAbs, max 0 (min sc 9)⟩
theorem dof_spec {z : St} (wf : WF z) {n : Int} (hn : inR n) (sc : Int) :
    Cw Tryz.prog 126 [.int .i64 n, .int .i64 sc] z fun r s' => K0 z s' ∧ r = (ofD n sc).val := by
  have hp : Hp (fun _ => False) z [] [] z := Hp.start _ wf _ (by simp)
  obtain ⟨n1, n2⟩ := hn
  have habs : n.natAbs < w64 := by simp only [w64]; omega
  refine Cw.enterS Tryz.func126 rfl rfl ?_
  refine Sm.seqW ?_
  conv => whnf
  refine hp.alloc (cs := Dc.zero.cells) (e := 4) rfl rfl rfl rfl rfl ?_
  clear hp
  intro p4 s hp _
  conv => whnf
  refine Sm.seqW ?_
  conv => whnf
  refine Sm.live [0, 1, 4, 5] ?_
  conv => whnf
  refine Sm.seqC (fun e L' s' => e = .normal ∧ s' = s ∧ Sub [(0, .int .i64 n), (1, .int .i64 sc), (4, .pointer (some ⟨p4, 0, none⟩)), (5, .int .u64 ((n.natAbs : Nat) : Int))] L') ?_ ?_
  · conv => whnf
    refine Br.mk (fun hc => ?_) (fun hc => ?_)
    · have hc := of_decide_eq_true hc
      conv => whnf
      have e : IntKind.u64.wrap (0 - IntKind.u64.wrap n) = ((n.natAbs : Nat) : Int) := by rw [wrap_u64i, wrap_u64i]; omega
      exact ⟨rfl, rfl, subK_ok ⟨rfl, rfl, rfl, congrArg (fun x => some (Value.int .u64 x)) e, trivial⟩⟩
    · have hc := of_decide_eq_false hc
      conv => whnf
      have e : IntKind.u64.wrap n = ((n.natAbs : Nat) : Int) := by rw [wrap_u64i]; omega
      exact ⟨rfl, rfl, subK_ok ⟨rfl, rfl, rfl, congrArg (fun x => some (Value.int .u64 x)) e, trivial⟩⟩
  rintro e L' s' ⟨rfl, rfl, hs⟩
  refine Sm.weak _ hs ?_
  clear hs
  refine Sm.seqW ?_
  conv => whnf
  (refine hp.call (lOf_spec hp.wf (a := n.natAbs) habs) ?_; clear hp; rintro _ s rfl hp _; conv => whnf)
  have em : (if (if 9 < sc then 9 else sc) > 0 then (if 9 < sc then 9 else sc) else 0) = max 0 (min sc 9) := by split <;> split <;> omega
  refine hp.storeW (vs := (ofD n sc).cells) (congrArg (fun x => [Value.bool (decide (n < 0)), .int .u64 ((n.natAbs % w64 : Nat) : Int), .int .u64 ((n.natAbs / w64 : Nat) : Int), Value.int .i64 x]) em) (by repeat (first | exact Rm.here | apply Rm.there)) (Dc_same _ Dc.zero) rfl rfl rfl ?_
  clear hp
  intro s hp _
  conv => whnf
  refine Sm.ofW ?_
  conv => whnf
  refine hp.loadA (l := (ofD n sc).cells) (by repeat (first | exact Has.here | apply Has.there | (apply Has.swap; repeat (first | exact HasR.here | apply HasR.there)))) rfl (by rfl) rfl rfl ?_
  conv => whnf
  exact ⟨hp.fr, rfl⟩
theorem dc_e (a b : Dc) : evEq Tryz.prog 10000 35 a.val b.val = some (a.neg == b.neg && ((((a.c % w64 : Nat) : Int) == ((b.c % w64 : Nat) : Int) && ((a.c / w64 : Nat) : Int) == ((b.c / w64 : Nat) : Int)) && a.scale == b.scale)) := by
  obtain ⟨an, ac, ae⟩ := a
  obtain ⟨bn, bc, be⟩ := b
  have key : ∀ q1 q2 r : Bool, (((ac % w64 : Nat) : Int) == ((bc % w64 : Nat) : Int)) = q1 → (((ac / w64 : Nat) : Int) == ((bc / w64 : Nat) : Int)) = q2 → (ae == be) = r → evEq Tryz.prog 10000 35 (Dc.val ⟨an, ac, ae⟩) (Dc.val ⟨bn, bc, be⟩) = some (an == bn && ((q1 && q2) && r)) := by
    intro q1 q2 r h1 h2 h3
    cases an <;> cases bn
    all_goals
      conv => lhs; whnf
      first
      | rfl
      | (show (match (match (some (((ac % w64 : Nat) : Int) == ((bc % w64 : Nat) : Int)) : Option Bool) with | some true => (match (some (((ac / w64 : Nat) : Int) == ((bc / w64 : Nat) : Int)) : Option Bool) with | some true => some true | some false => some false | none => none) | some false => some false | none => none) with | some true => (match (some (ae == be) : Option Bool) with | some true => some true | some false => some false | none => none) | some false => some false | none => none) = _
         rw [h1, h2, h3]
         cases q1 <;> cases q2 <;> cases r <;> rfl)
  exact key _ _ _ rfl rfl rfl
end Go.Ev
end

/- Rounding: decimals that are alike; chapter 3's example. No condition. -/
noncomputable section
namespace Go.Ev
open Go.Proofs
variable [Lk]
set_option linter.unusedSectionVars false
set_option linter.unusedVariables false
set_option maxRecDepth 100000

def eqD (a b : Dc) : Bool := a.neg == b.neg && (decide (a.c = b.c) && a.scale == b.scale)
theorem words_eq (a b : Nat) : (((a % w64 : Nat) : Int) == ((b % w64 : Nat) : Int) && ((a / w64 : Nat) : Int) == ((b / w64 : Nat) : Int)) = decide (a = b) := by
  by_cases h : a = b
  · subst h; simp
  · rw [decide_eq_false h, Bool.and_eq_false_iff]
    by_cases h1 : a % w64 = b % w64
    · right
      rw [beq_eq_false_iff_ne]
      intro h2
      apply h
      have h2 : a / w64 = b / w64 := Int.ofNat.inj h2
      simp only [w64] at *; omega
    · left
      rw [beq_eq_false_iff_ne]
      intro h2
      exact h1 (Int.ofNat.inj h2)
theorem dc_eq (a b : Dc) (c : Bool) : evBin Tryz.prog .eql 35 c a.val b.val = some (.bool (eqD a b)) := by
  have hg : Tryz.prog.eqGuardType Tryz.prog.depth 35 = false := by decide +kernel
  show (match !(Tryz.prog.eqGuardType Tryz.prog.depth 35) with | false => none | true => (match evEq Tryz.prog 10000 35 a.val b.val with | some b => some (Value.bool b) | none => none)) = _
  rw [hg, dc_e, words_eq]; rfl
end Go.Ev
end

/- Lists of digits: Word, Within. No condition. -/
noncomputable section
namespace Go.Ev
open Go.Proofs
variable [Lk]
set_option linter.unusedSectionVars false
set_option linter.unusedVariables false
set_option maxRecDepth 100000

/-- A number's digits, the lowest first. -/
def dg (n : Nat) : List Nat := if n = 0 then [] else n % 10 :: dg (n / 10)
termination_by n
decreasing_by omega
/-- What digits are worth. -/
def Vd : List Nat → Nat
  | [] => 0
  | d :: l => d + 10 * Vd l
theorem Vd_dg (n : Nat) : Vd (dg n) = n := by
  induction n using Nat.strongRecOn with
  | _ n ih =>
    rw [dg]
    by_cases h : n = 0
    · rw [if_pos h]; simp [Vd, h]
    · rw [if_neg h]
      simp only [Vd]
      rw [ih (n / 10) (by omega)]
      omega
theorem dg_lt (n : Nat) : ∀ d ∈ dg n, d < 10 := by
  induction n using Nat.strongRecOn with
  | _ n ih =>
    rw [dg]
    by_cases h : n = 0
    · rw [if_pos h]; simp
    · rw [if_neg h]
      intro d hd
      rcases List.mem_cons.1 hd with rfl | hd
      · exact Nat.mod_lt _ (by decide)
      · exact ih (n / 10) (by omega) d hd
theorem dg_len (k : Nat) : ∀ n, n < 10 ^ k → (dg n).length ≤ k := by
  induction k with
  | zero => intro n h; simp at h; subst h; rw [dg]; simp
  | succ k ih =>
    intro n h
    rw [dg]
    by_cases h0 : n = 0
    · rw [if_pos h0]; simp
    · rw [if_neg h0]
      have := ih (n / 10) (by rw [Nat.pow_succ] at h; omega)
      simp; omega
def natI (l : List Nat) : List Value := l.map fun (n : Nat) => .int .i64 (n : Int)
theorem natI_len (l : List Nat) : (natI l).length = l.length := by simp [natI]
theorem ID : SlT Tryz.prog 128 3 1 8 (.int .i64 0) := ⟨Tryz.underlying128, ⟨_, rfl, rfl, rfl, rfl⟩, rfl, rfl, by decide, by decide⟩
theorem within_spec (s : St) (n a b : Int) : Cw Tryz.prog 49 [.int .i64 n, .int .i64 a, .int .i64 b] s fun r s' => s' = s ∧ r = .int .i64 (max a (min b n)) := by
  refine Cw.enter Tryz.func49 rfl rfl ?_
  conv => whnf
  have e : (if (if n < b then n else b) > a then (if n < b then n else b) else a) = max a (min b n) := by split <;> split <;> omega
  exact ⟨rfl, congrArg (Value.int .i64) e⟩
end Go.Ev
end

/- Lists of digits: Word walked. No condition. -/
noncomputable section
namespace Go.Ev
open Go.Proofs
variable [Lk]
set_option linter.unusedSectionVars false
set_option linter.unusedVariables false
set_option maxRecDepth 100000

theorem quo_u64 {P : Program} {t : TypeId} {cst : Bool} {n m : Nat} (hm : 0 < m) (hn : n < w64) : evBin P .quo t cst (.int .u64 (n : Int)) (.int .u64 (m : Int)) = some (.int .u64 ((n / m : Nat) : Int)) := by
  show (match decide ((m : Int) = 0) with
    | true => none
    | false => some (Value.int .u64 (IntKind.u64.wrap ((n : Int).tdiv m)))) = _
  rw [decide_eq_false (by omega)]
  have : (n : Int).tdiv m = ((n / m : Nat) : Int) := by rw [Int.tdiv_eq_ediv_of_nonneg (by omega)]; push_cast; rfl
  have h2 : n / m ≤ n := Nat.div_le_self _ _
  rw [this, wrap_u64, Nat.mod_eq_of_lt (Nat.lt_of_le_of_lt h2 hn)]
theorem rem_u64 {P : Program} {t : TypeId} {cst : Bool} {n m : Nat} (hm : 0 < m) : evBin P .rem t cst (.int .u64 (n : Int)) (.int .u64 (m : Int)) = some (.int .u64 ((n % m : Nat) : Int)) := by
  show (match decide ((m : Int) = 0) with
    | true => none
    | false => some (Value.int .u64 ((n : Int).tmod m))) = _
  rw [decide_eq_false (by omega)]
  have : (n : Int).tmod m = ((n % m : Nat) : Int) := by rw [Int.tmod_eq_emod_of_nonneg (by omega)]; push_cast; rfl
  rw [this]
theorem Hp.nilA {X : Nat → Prop} {s0 s : St} {R F : List At} (h : Hp X s0 R F s) (e : Nat) : Hp X s0 R (onA none (.slice none 0 0) e 0 [] :: F) s :=
  h.push (Kp.refl h.wf) (a := onA none (.slice none 0 0) e 0 []) (⟨.inl ⟨rfl, rfl, rfl, rfl⟩⟩ : OwnO s none _ e 0 []) (fun j hj => by cases hj)
theorem word_spec {z : St} (wf : WF z) {n : Nat} (hn : n < w64) :
    Cw Tryz.prog 62 [.int .u64 (n : Int)] z fun r s' => K0 z s' ∧ OwnN z.next s' r 1 (dg n).length (natI (dg n)) := by
  have hp : Hp (fun _ => False) z [] [] z := Hp.start _ wf _ (by simp)
  have hlen : (dg n).length ≤ 20 := dg_len 20 n (by simp only [w64] at hn; omega)
  refine Cw.enterS Tryz.func62 rfl rfl ?_
  refine Sm.seqW ?_
  conv => whnf
  refine Sm.seqW ?_
  conv => whnf
  refine Sm.seq (Sm.block ?_)
  refine Sm.loop ?_
  refine Lp.ofS (α := List Nat × Nat × Option Nat × Value) (fun x => [(0, .int .u64 (x.2.1 : Int)), (3, x.2.2.2)])
    (fun x s' => dg n = x.1 ++ dg x.2.1 ∧ x.2.1 < w64 ∧ Hp (fun _ => False) z [] [onA x.2.2.1 x.2.2.2 1 x.1.length (natI x.1)] s') (fun x => x.2.1) ?_ ([], n, none, .slice none 0 0) (subK_ok (by refine ⟨rfl, rfl, trivial⟩)) ⟨rfl, hn, (hp.nilA 1).pik (by repeat (first | exact Pik.nil | exact Pik.refl _ | exact Rm.here | apply Rm.there | apply Pik.cons | apply Pik.skip))⟩
  clear hp
  rintro ⟨L, m, κ, v⟩ s ⟨hL, hm, hp⟩
  simp only at hL hm hp
  obtain ⟨a, c, rfl⟩ := (hp.slF (κ := κ) (v := v) (by repeat (first | exact Rm.here | apply Rm.there))).shape
  refine Sm.seq ?_
  refine Sm.seqW ?_
  conv => whnf
  refine Sm.ofW ?_
  conv => whnf
  refine Br.mk (fun hc => ?_) (fun hc => ?_)
  · have hc : 0 < m := by have h : ((m : Nat) : Int) > ((0 : Nat) : Int) := of_decide_eq_true hc; omega
    have hdg : dg m = m % 10 :: dg (m / 10) := by
      conv => lhs; rw [dg]
      rw [if_neg (by omega)]
    have hLl : L.length ≤ 20 := by rw [hL] at hlen; simp at hlen; omega
    conv => whnf
    refine Sm.block ?_
    refine Sm.seqW ?_
    conv => whnf
    refine Om.of _ (rem_u64 (n := m) (m := 10) (by decide)) ?_
    conv => whnf
    have e1 : IntKind.i64.wrap ((m % 10 : Nat) : Int) = ((m % 10 : Nat) : Int) := wi64 (by omega) (by omega)
    rw [e1]
    refine hp.one ID rfl ?_
    clear hp
    intro v4 b4 s hp _
    conv => whnf
    have x4 : Sl s (some b4) v4 1 1 [.int .i64 ((m % 10 : Nat) : Int)] := Own.sl (hp.okF _ List.mem_cons_self)
    refine hp.app ID Tryz.underlying128 rfl (by repeat (first | exact Rm.here | apply Rm.there)) (elems_sl x4) rfl rfl (by omega) ?_
    clear hp x4
    intro v5 κ5 s hp
    have hnv : natI L ++ [.int .i64 ((m % 10 : Nat) : Int)] = natI (L ++ [m % 10]) := by simp [natI]
    have hln : L.length + 1 = (L ++ [m % 10]).length := by simp
    rw [hnv, hln] at hp
    conv => whnf
    refine Sm.ofW ?_
    conv => whnf
    refine Om.of _ (quo_u64 (n := m) (m := 10) (by decide) hm) ?_
    conv => whnf
    refine ⟨(L ++ [m % 10], m / 10, κ5, v5), by (show m / 10 < m); omega, subK_ok (by refine ⟨rfl, rfl, trivial⟩), by rw [hL, hdg]; simp, by (show m / 10 < w64); omega, hp.pik (by repeat (first | exact Pik.nil | exact Pik.refl _ | exact Rm.here | apply Rm.there | apply Pik.cons | apply Pik.skip))⟩
  · have hc : m = 0 := by have h : ¬ ((m : Nat) : Int) > ((0 : Nat) : Int) := of_decide_eq_false hc; omega
    subst hc
    have h0 : dg 0 = [] := by rw [dg]; simp
    rw [h0, List.append_nil] at hL
    subst hL
    conv => whnf
    refine Sm.ofW ?_
    conv => whnf
    exact ⟨hp.fr, hp.out .here⟩
end Go.Ev
end

/- Lists of digits: digit, short. No condition. -/
noncomputable section
namespace Go.Ev
open Go.Proofs
variable [Lk]
set_option linter.unusedSectionVars false
set_option linter.unusedVariables false
set_option maxRecDepth 100000

/-- A slice of digits. -/
abbrev Sd (s : St) (κ : Option Nat) (v : Value) (l : List Nat) : Prop := Sl s κ v 1 l.length (natI l)
theorem dig_at {s : St} {κ : Option Nat} {v : Value} {l : List Nat} (h : Sd s κ v l) {i : Nat} (hi : i < l.length) :
    ∃ a, evIndexAddr Tryz.prog 128 v (.int .i64 (i : Int)) = some (.pointer (some a)) ∧ evLoad Tryz.prog 3 (.pointer (some a)) s = some (.int .i64 (l[i] : Int)) := by
  obtain ⟨p, y, e1, e2, e3, a, rfl⟩ := index_sl ID Tryz.underlying3 rfl h .i64 hi
  obtain rfl : y = .int .i64 (l[i] : Int) := by simp [natI, hi] at e2; exact e2.symm
  exact ⟨a, e1, e3⟩
theorem digit_spec (s : St) {κ : Option Nat} {v : Value} {l : List Nat} (hv : Sd s κ v l) (k : Nat) :
    Cw Tryz.prog 141 [v, .int .i64 (k : Int)] s fun r s' => s' = s ∧ r = .int .i64 ((l.getD k 0 : Nat) : Int) := by
  obtain ⟨a, c, rfl⟩ := hv.shape
  refine Cw.enterS Tryz.func141 rfl rfl ?_
  refine Sm.seqW ?_
  conv => whnf
  refine Sm.seq ?_
  refine Sm.seqW ?_
  conv => whnf
  by_cases hk : k < l.length
  · refine Sm.ofW ?_
    conv => whnf
    refine Br.yes (decide_eq_true (by omega)) ?_
    conv => whnf
    obtain ⟨p, e1, e2⟩ := dig_at hv hk
    refine Om.of _ e1 ?_
    conv => whnf
    refine Om.of _ e2 ?_
    conv => whnf
    refine ⟨rfl, congrArg (Value.int .i64) ?_⟩
    rw [List.getD_eq_getElem?_getD, List.getElem?_eq_getElem hk]; rfl
  · refine Sm.ofW ?_
    conv => whnf
    refine Br.no (decide_eq_false (by omega)) ?_
    conv => whnf
    refine Sm.ofW ?_
    conv => whnf
    refine ⟨rfl, congrArg (Value.int .i64) ?_⟩
    rw [List.getD_eq_getElem?_getD, List.getElem?_eq_none (by omega)]; rfl
theorem Vd_drop {l : List Nat} {i : Nat} (h : i < l.length) : Vd (l.drop i) = l[i] + 10 * Vd (l.drop (i + 1)) := by
  rw [List.drop_eq_getElem_cons h]; rfl
theorem Vd_drop_le : ∀ (l : List Nat) (i : Nat), Vd (l.drop i) ≤ Vd l
  | [], i => by simp
  | d :: l, 0 => Nat.le_refl _
  | d :: l, i + 1 => by
    have := Vd_drop_le l i
    simp only [List.drop_succ_cons, Vd]; omega
theorem short_spec (s : St) {κ : Option Nat} {v : Value} {l : List Nat} (hv : Sd s κ v l) (hl : l.length ≤ 1000000) (hd : ∀ d ∈ l, d < 10) (hV : Vd l < w64) :
    Cw Tryz.prog 156 [v] s fun r s' => s' = s ∧ r = .int .u64 ((Vd l : Nat) : Int) := by
  obtain ⟨a, c, rfl⟩ := hv.shape
  refine Cw.enterS Tryz.func156 rfl rfl ?_
  refine Sm.seqW ?_
  conv => whnf
  refine Sm.seqW ?_
  conv => whnf
  refine Sm.seq ?_
  refine Sm.seqW ?_
  conv => whnf
  refine Sm.block ?_
  refine Sm.loop ?_
  have e0 : IntKind.i64.wrap ((l.length : Int) - 1) = (l.length : Int) - 1 := wi64 (by omega) (by omega)
  refine Lp.ofS (α := Nat) (fun m => [(0, .slice a l.length c), (3, .int .u64 ((Vd (l.drop m) : Nat) : Int)), (4, .int .i64 ((m : Int) - 1))])
    (fun m s' => m ≤ l.length ∧ s' = s) (fun m => m) ?_ l.length (subK_ok (by refine ⟨rfl, congrArg (fun x => some (Value.int .u64 x)) (by rw [List.drop_length]; rfl), congrArg (fun x => some (Value.int .i64 x)) e0, trivial⟩)) ⟨Nat.le_refl _, rfl⟩
  rintro m _ ⟨hm, rfl⟩
  cases m with
  | zero =>
    refine Sm.seq ?_
    refine Sm.seqW ?_
    conv => whnf
    refine Sm.ofW ?_
    conv => whnf
    refine Br.no rfl ?_
    conv => whnf
    refine Sm.ofW ?_
    conv => whnf
    exact ⟨rfl, rfl⟩
  | succ i =>
    have hi : i < l.length := by omega
    have hdi := hd _ (List.getElem_mem hi)
    have hv1 := Vd_drop hi
    have hv2 := Vd_drop_le l i
    refine Sm.weak [(0, .slice a l.length c), (3, .int .u64 ((Vd (l.drop (i + 1)) : Nat) : Int)), (4, .int .i64 (i : Int))] (subK_ok ⟨rfl, rfl, congrArg (fun x => some (Value.int .i64 x)) (show ((i + 1 : Nat) : Int) - 1 = (i : Int) by push_cast; omega), trivial⟩) ?_
    refine Sm.seq ?_
    refine Sm.seqW ?_
    conv => whnf
    refine Sm.ofW ?_
    conv => whnf
    refine Br.yes (decide_eq_true (by omega)) ?_
    conv => whnf
    refine Sm.seq (Sm.block ?_)
    refine Sm.ofW ?_
    conv => whnf
    obtain ⟨p, e1, e2⟩ := dig_at hv hi
    refine Om.of _ e1 ?_
    conv => whnf
    refine Om.of _ e2 ?_
    conv => whnf
    refine Sm.ofW ?_
    conv => whnf
    have ev : IntKind.u64.wrap (IntKind.u64.wrap (10 * ((Vd (l.drop (i + 1)) : Nat) : Int)) + IntKind.u64.wrap (l[i] : Int)) = ((Vd (l.drop i) : Nat) : Int) := by
      rw [wrap_u64i, wrap_u64i, wrap_u64i]; simp only [w64] at hV; omega
    have ei : IntKind.i64.wrap ((i : Int) - 1) = (i : Int) - 1 := wi64 (by omega) (by omega)
    exact ⟨i, Nat.lt_succ_self i, subK_ok (by refine ⟨rfl, congrArg (fun x => some (Value.int .u64 x)) ev, congrArg (fun x => some (Value.int .i64 x)) ei, trivial⟩), by omega, rfl⟩
end Go.Ev
end

/- Lists of digits: trim. No condition. -/
noncomputable section
namespace Go.Ev
open Go.Proofs
variable [Lk]
set_option linter.unusedSectionVars false
set_option linter.unusedVariables false
set_option maxRecDepth 100000

/-- Without zeros at the end. -/
def trimL (l : List Nat) : List Nat := (l.reverse.dropWhile (· == 0)).reverse
theorem trimL_snoc0 (l : List Nat) : trimL (l ++ [0]) = trimL l := by simp [trimL]
theorem trimL_snoc (l : List Nat) {d : Nat} (h : d ≠ 0) : trimL (l ++ [d]) = l ++ [d] := by simp [trimL, h]
theorem sd_to {s : St} {κ : Option Nat} {v : Value} {l : List Nat} (h : Sd s κ v l) {j : Nat} (hj : j ≤ l.length) :
    ∃ v', evSliceMem Tryz.prog 128 v none (some (.int .i64 (j : Int))) none s = some v' ∧ Sd s κ v' (l.take j) := by
  obtain ⟨v', e, h'⟩ := slice_sl ID h .i64 .i64 none (some j) (by simp) (by simpa using hj)
  refine ⟨v', e, ?_⟩
  have hl : (l.take j).length = j := by simp; omega
  unfold Sd
  rw [hl]
  simpa [natI, List.map_take] using h'
theorem trim_spec (s : St) {κ : Option Nat} {v : Value} {l : List Nat} (hv : Sd s κ v l) (hl : l.length ≤ 1000000) :
    Cw Tryz.prog 127 [v] s fun r s' => s' = s ∧ Sd s κ r (trimL l) := by
  refine Cw.enterS Tryz.func127 rfl rfl ?_
  refine Sm.seqW ?_
  conv => whnf
  refine Sm.seq (Sm.block ?_)
  refine Sm.loop ?_
  refine Lp.ofS (α := List Nat × Value) (fun x => [(0, x.2)])
    (fun x s' => s' = s ∧ x.1.length ≤ 1000000 ∧ trimL x.1 = trimL l ∧ Sd s κ x.2 x.1) (fun x => x.1.length) ?_ (l, v) (subK_ok (by refine ⟨rfl, trivial⟩)) ⟨rfl, hl, rfl, hv⟩
  rintro ⟨m, w⟩ _ ⟨rfl, hm, ht, hw⟩
  simp only at hm ht hw
  obtain ⟨a, c, rfl⟩ := hw.shape
  by_cases h0 : m = []
  · subst h0
    refine Sm.seq ?_
    refine Sm.seqW ?_
    conv => whnf
    repeat (first | (refine Br.yes (by first | with_reducible rfl | with_reducible exact beq_self_eq_true _ | rfl) ?_; conv => whnf) | (refine Br.no (by first | with_reducible rfl | with_reducible exact bne_self_eq_false _ | rfl) ?_; conv => whnf))
    refine Sm.ofW ?_
    conv => whnf
    repeat (first | (refine Br.yes (by first | with_reducible rfl | with_reducible exact beq_self_eq_true _ | rfl) ?_; conv => whnf) | (refine Br.no (by first | with_reducible rfl | with_reducible exact bne_self_eq_false _ | rfl) ?_; conv => whnf))
    refine Sm.ofW ?_
    conv => whnf
    refine ⟨rfl, ?_⟩
    rw [← ht]; exact hw
  · obtain ⟨m, d, rfl⟩ : ∃ m' d, m = m' ++ [d] := ⟨m.dropLast, m.getLast h0, (List.dropLast_concat_getLast h0).symm⟩
    have hml : (m ++ [d]).length = m.length + 1 := by simp
    have dd : decide (((m ++ [d]).length : Int) > ((0 : Nat) : Int)) = true := decide_eq_true (by omega)
    have dd : decide (((m ++ [d]).length : Int) > 0) = true := dd
    have ek : IntKind.i64.wrap (((m ++ [d]).length : Int) - 1) = (m.length : Int) := by rw [hml, wi64 (by omega) (by omega)]; omega
    have hg : (m ++ [d])[m.length]'(by omega) = d := by simp
    refine Sm.seq ?_
    refine Sm.seqW ?_
    conv => whnf
    repeat (refine Br.yes dd ?_; conv => whnf)
    rw [ek]
    obtain ⟨p, e1, e2⟩ := dig_at hw (i := m.length) (by omega)
    rw [hg] at e2
    refine Om.of _ e1 ?_
    conv => whnf
    repeat (refine Br.yes dd ?_; conv => whnf)
    refine Om.of _ e2 ?_
    conv => whnf
    repeat (refine Br.yes dd ?_; conv => whnf)
    by_cases hd0 : d = 0
    · subst hd0
      refine Sm.ofW ?_
      conv => whnf
      refine Br.yes rfl ?_
      conv => whnf
      refine Sm.block ?_
      refine Sm.ofW ?_
      conv => whnf
      rw [ek]
      obtain ⟨v', e3, h3⟩ := sd_to hw (j := m.length) (by omega)
      rw [List.take_left' rfl] at h3
      refine Om.of _ e3 ?_
      conv => whnf
      exact ⟨(m, v'), by (show m.length < (m ++ [0]).length); omega, subK_ok (by refine ⟨rfl, trivial⟩), rfl, by (show m.length ≤ 1000000); omega, (trimL_snoc0 m).symm.trans ht, h3⟩
    · have hdb : ((d : Int) == 0) = false := beq_eq_false_iff_ne.2 (by omega)
      refine Sm.ofW ?_
      conv => whnf
      refine Br.no hdb ?_
      conv => whnf
      refine Sm.ofW ?_
      conv => whnf
      refine ⟨rfl, ?_⟩
      rw [← ht, trimL_snoc m hd0]
      exact hw
end Go.Ev
end

/- Lists of digits: CmpNat. No condition. -/
noncomputable section
namespace Go.Ev
open Go.Proofs
variable [Lk]
set_option linter.unusedSectionVars false
set_option linter.unusedVariables false
set_option maxRecDepth 100000

/-- Digits: each below ten, the last one not 0. -/
structure Dl (l : List Nat) : Prop where
  lt : ∀ d ∈ l, d < 10
  top : ∀ h : 0 < l.length, l[l.length - 1] ≠ 0
theorem Vd_lt : ∀ (l : List Nat), (∀ d ∈ l, d < 10) → Vd l < 10 ^ l.length
  | [], _ => by simp [Vd]
  | d :: l, h => by
    have h1 := Vd_lt l fun x hx => h x (by simp [hx])
    have h2 := h d (by simp)
    simp only [Vd, List.length_cons, Nat.pow_succ]; omega
theorem Vd_split : ∀ (l : List Nat) (j : Nat), Vd l = Vd (l.take j) + 10 ^ j * Vd (l.drop j)
  | [], j => by simp [Vd]
  | d :: l, 0 => by simp [Vd]
  | d :: l, j + 1 => by
    have := Vd_split l j
    simp only [List.take_succ_cons, List.drop_succ_cons, Vd, Nat.pow_succ]
    rw [this, Nat.mul_add, ← Nat.mul_assoc, Nat.mul_comm (10 ^ j) 10, Nat.add_assoc]
theorem Dl.ge {l : List Nat} (h : Dl l) (hl : 0 < l.length) : 10 ^ (l.length - 1) ≤ Vd l := by
  have h1 := Vd_split l (l.length - 1)
  have h2 := Vd_drop (l := l) (i := l.length - 1) (by omega)
  have h3 := h.top hl
  have h4 : 1 ≤ Vd (l.drop (l.length - 1)) := by omega
  have h5 : 10 ^ (l.length - 1) * 1 ≤ 10 ^ (l.length - 1) * Vd (l.drop (l.length - 1)) := Nat.mul_le_mul_left _ h4
  omega
theorem Dl.shorter {l m : List Nat} (hl : Dl l) (hm : Dl m) (h : l.length < m.length) : Vd l < Vd m := by
  have h1 := Vd_lt l hl.lt
  have h2 := hm.ge (by omega)
  have h3 : 10 ^ l.length ≤ 10 ^ (m.length - 1) := Nat.pow_le_pow_right (by decide) (by omega)
  omega
theorem Vd_less {l m : List Nat} (hl : ∀ d ∈ l, d < 10) {j : Nat} (hj : j ≤ l.length) (h : Vd (l.drop j) < Vd (m.drop j)) : Vd l < Vd m := by
  have h1 := Vd_split l j
  have h2 := Vd_split m j
  have h3 := Vd_lt (l.take j) fun d hd => hl d (List.mem_of_mem_take hd)
  have h4 : (l.take j).length = j := by simp; omega
  rw [h4] at h3
  have h5 : 10 ^ j * (Vd (l.drop j) + 1) ≤ 10 ^ j * Vd (m.drop j) := Nat.mul_le_mul_left _ h
  rw [Nat.mul_add, Nat.mul_one] at h5
  omega
theorem cmpNat_spec (s : St) {κ κ' : Option Nat} {v w : Value} {l m : List Nat} (hv : Sd s κ v l) (hw : Sd s κ' w m) (hl : Dl l) (hm : Dl m) (hll : l.length ≤ 1000000) (hml : m.length ≤ 1000000) :
    Cw Tryz.prog 131 [v, w] s fun r s' => s' = s ∧ r = .int .i64 (cmpI (Vd l) (Vd m)) := by
  obtain ⟨a, c, rfl⟩ := hv.shape
  obtain ⟨a', c', rfl⟩ := hw.shape
  have cl : Vd l < Vd m → cmpI (Vd l) (Vd m) = -1 := fun h => if_pos h
  have cg : Vd m < Vd l → cmpI (Vd l) (Vd m) = 1 := fun h => by unfold cmpI; rw [if_neg (by omega), if_neg (by omega)]
  have ce : Vd l = Vd m → cmpI (Vd l) (Vd m) = 0 := fun h => by unfold cmpI; rw [if_neg (by omega), if_pos h]
  refine Cw.enterS Tryz.func131 rfl rfl ?_
  refine Sm.seqW ?_
  conv => whnf
  refine Sm.seq ?_
  refine Sm.seqW ?_
  conv => whnf
  by_cases hlen : l.length = m.length
  · refine Sm.ofW ?_
    conv => whnf
    refine Br.no (bne_eq_false_iff_eq.2 (by exact congrArg Int.ofNat hlen)) ?_
    conv => whnf
    refine Sm.live [0, 1] ?_
    conv => whnf
    refine Sm.seq ?_
    refine Sm.seqW ?_
    conv => whnf
    refine Sm.block ?_
    refine Sm.loop ?_
    have e0 : IntKind.i64.wrap ((l.length : Int) - 1) = (l.length : Int) - 1 := wi64 (by omega) (by omega)
    refine Lp.ofS (α := Nat) (fun k => [(0, .slice a l.length c), (1, .slice a' m.length c'), (5, .int .i64 ((k : Int) - 1))])
      (fun k s' => k ≤ l.length ∧ Vd (l.drop k) = Vd (m.drop k) ∧ s' = s) (fun k => k) ?_ l.length (subK_ok (by refine ⟨rfl, rfl, congrArg (fun x => some (Value.int .i64 x)) e0, trivial⟩)) ⟨Nat.le_refl _, by rw [List.drop_length, hlen, List.drop_length], rfl⟩
    rintro k _ ⟨hk, hE, rfl⟩
    cases k with
    | zero =>
      refine Sm.seq ?_
      refine Sm.seqW ?_
      conv => whnf
      refine Sm.ofW ?_
      conv => whnf
      refine Br.no rfl ?_
      conv => whnf
      refine Sm.ofW ?_
      conv => whnf
      exact ⟨rfl, congrArg (Value.int .i64) (ce (by simpa using hE)).symm⟩
    | succ i =>
      have hi : i < l.length := by omega
      have hi2 : i < m.length := by omega
      have v1 := Vd_drop hi
      have v2 := Vd_drop hi2
      refine Sm.weak [(0, .slice a l.length c), (1, .slice a' m.length c'), (5, .int .i64 (i : Int))] (subK_ok ⟨rfl, rfl, congrArg (fun x => some (Value.int .i64 x)) (show ((i + 1 : Nat) : Int) - 1 = (i : Int) by push_cast; omega), trivial⟩) ?_
      refine Sm.seq ?_
      refine Sm.seqW ?_
      conv => whnf
      refine Sm.ofW ?_
      conv => whnf
      refine Br.yes (decide_eq_true (by omega)) ?_
      conv => whnf
      refine Sm.seq (Sm.block ?_)
      refine Sm.seq ?_
      refine Sm.seqW ?_
      conv => whnf
      refine ⟨[0, 0, 3, 7, 0, 0, 48, 112, 255], by decide +kernel, by decide +kernel, ?_⟩
      conv => whnf
      obtain ⟨p, e1, e2⟩ := dig_at hv hi
      obtain ⟨p', e3, e4⟩ := dig_at hw hi2
      refine Om.of _ e1 ?_
      conv => whnf
      refine Om.of _ e2 ?_
      conv => whnf
      refine Om.of _ e3 ?_
      conv => whnf
      refine Om.of _ e4 ?_
      conv => whnf
      by_cases h1 : l[i] < m[i]
      · refine Sm.ofW ?_
        conv => whnf
        refine Br.yes (decide_eq_true (by omega)) ?_
        conv => whnf
        exact ⟨rfl, congrArg (Value.int .i64) (cl (Vd_less hl.lt (j := i) (by omega) (by omega))).symm⟩
      refine Sm.ofW ?_
      conv => whnf
      refine Br.no (decide_eq_false (by omega)) ?_
      conv => whnf
      refine Sm.seqW ?_
      conv => whnf
      refine ⟨[0, 0, 3, 7, 0, 0, 48, 112, 255], by decide +kernel, by decide +kernel, ?_⟩
      conv => whnf
      refine Om.of _ e1 ?_
      conv => whnf
      refine Om.of _ e2 ?_
      conv => whnf
      refine Om.of _ e3 ?_
      conv => whnf
      refine Om.of _ e4 ?_
      conv => whnf
      by_cases h2 : m[i] < l[i]
      · refine Sm.ofW ?_
        conv => whnf
        refine Br.yes (decide_eq_true (by omega)) ?_
        conv => whnf
        exact ⟨rfl, congrArg (Value.int .i64) (cg (Vd_less hm.lt (j := i) (by omega) (by omega))).symm⟩
      refine Sm.ofW ?_
      conv => whnf
      refine Br.no (decide_eq_false (by omega)) ?_
      conv => whnf
      refine Sm.ofW ?_
      conv => whnf
      have ei : IntKind.i64.wrap ((i : Int) - 1) = (i : Int) - 1 := wi64 (by omega) (by omega)
      exact ⟨i, Nat.lt_succ_self i, subK_ok (by refine ⟨rfl, rfl, congrArg (fun x => some (Value.int .i64 x)) ei, trivial⟩), by omega, by omega, rfl⟩
  · refine Sm.cond (v := true) (congrArg (fun x => some (Value.bool x)) (bne_iff_ne.2 (by intro h; exact hlen (Int.ofNat.inj h)))) (fun _ => ?_) (fun h => by cases h)
    refine Sm.seq ?_
    refine Sm.seqW ?_
    conv => whnf
    by_cases h1 : l.length < m.length
    · refine Sm.ofW ?_
      conv => whnf
      refine Br.yes (decide_eq_true (by omega)) ?_
      conv => whnf
      exact ⟨rfl, congrArg (Value.int .i64) (cl (hl.shorter hm h1)).symm⟩
    · refine Sm.ofW ?_
      conv => whnf
      refine Br.no (decide_eq_false (by omega)) ?_
      conv => whnf
      refine Sm.ofW ?_
      conv => whnf
      exact ⟨rfl, congrArg (Value.int .i64) (cg (hm.shorter hl (by omega))).symm⟩
end Go.Ev
end

/- Lists of digits: sums, without a program. No condition. -/
noncomputable section
namespace Go.Ev
open Go.Proofs
variable [Lk]
set_option linter.unusedSectionVars false
set_option linter.unusedVariables false
set_option maxRecDepth 100000

theorem Vd_snoc : ∀ (l : List Nat) (d : Nat), Vd (l ++ [d]) = Vd l + 10 ^ l.length * d
  | [], d => by simp [Vd]
  | x :: l, d => by
    have := Vd_snoc l d
    simp only [List.cons_append, Vd, List.length_cons, Nat.pow_succ]
    rw [this, Nat.mul_add, ← Nat.mul_assoc, Nat.mul_comm 10 (10 ^ l.length), Nat.add_assoc]
theorem trim_ok (n : Nat) : ∀ l : List Nat, l.length = n → (∀ d ∈ l, d < 10) → Dl (trimL l) ∧ Vd (trimL l) = Vd l ∧ (trimL l).length ≤ l.length := by
  induction n with
  | zero =>
    intro l hl _
    have : l = [] := List.length_eq_zero_iff.1 hl
    subst this
    exact ⟨⟨by simp [trimL], by intro h; simp [trimL] at h⟩, rfl, by simp [trimL]⟩
  | succ n ih =>
    intro l hl hd
    obtain ⟨m, d, rfl⟩ : ∃ m d, l = m ++ [d] := ⟨l.dropLast, l.getLast (fun e => by subst e; simp at hl), (List.dropLast_concat_getLast _).symm⟩
    have hm : m.length = n := by simpa using hl
    by_cases h0 : d = 0
    · subst h0
      rw [trimL_snoc0, Vd_snoc, Nat.mul_zero, Nat.add_zero]
      obtain ⟨h1, h2, h3⟩ := ih m hm fun x hx => hd x (by simp [hx])
      exact ⟨h1, h2, by simp; omega⟩
    · rw [trimL_snoc m h0]
      refine ⟨⟨hd, fun h => ?_⟩, rfl, Nat.le_refl _⟩
      simp [h0]
theorem Vd_getD (l : List Nat) (k : Nat) : Vd (l.drop k) = l.getD k 0 + 10 * Vd (l.drop (k + 1)) := by
  by_cases h : k < l.length
  · rw [Vd_drop h, List.getD_eq_getElem?_getD, List.getElem?_eq_getElem h]; rfl
  · rw [List.drop_of_length_le (by omega), List.drop_of_length_le (by omega), List.getD_eq_getElem?_getD, List.getElem?_eq_none (by omega)]; rfl
theorem getD_lt {l : List Nat} (h : ∀ d ∈ l, d < 10) (k : Nat) : l.getD k 0 < 10 := by
  rw [List.getD_eq_getElem?_getD]
  by_cases hk : k < l.length
  · rw [List.getElem?_eq_getElem hk]; exact h _ (List.getElem_mem hk)
  · rw [List.getElem?_eq_none (by omega)]; decide
/-- What stands while two numbers are added, digit by digit. -/
structure AddOk (a b : List Nat) (k c : Nat) (L : List Nat) : Prop where
  len : L.length = k
  lt : ∀ d ∈ L, d < 10
  c1 : c ≤ 1
  val : Vd L + 10 ^ k * (c + Vd (a.drop k) + Vd (b.drop k)) = Vd a + Vd b
theorem AddOk.step {a b L : List Nat} {k c : Nat} (h : AddOk a b k c L) (ha : ∀ d ∈ a, d < 10) (hb : ∀ d ∈ b, d < 10) : AddOk a b (k + 1) ((a.getD k 0 + b.getD k 0 + c) / 10) (L ++ [(a.getD k 0 + b.getD k 0 + c) % 10]) := by
  have h1 := getD_lt ha k
  have h2 := getD_lt hb k
  have h3 := h.c1
  refine ⟨by simp [h.len], fun d hd => ?_, by omega, ?_⟩
  · rcases List.mem_append.1 hd with g | g
    · exact h.lt d g
    · rw [List.mem_singleton] at g; subst g; exact Nat.mod_lt _ (by decide)
  · have hv := h.val
    rw [Vd_getD a k, Vd_getD b k] at hv
    rw [Vd_snoc, h.len, Nat.pow_succ, Nat.mul_assoc, Nat.add_assoc, ← Nat.mul_add]
    generalize Vd (a.drop (k + 1)) = A at *
    generalize Vd (b.drop (k + 1)) = B at *
    have e : (a.getD k 0 + b.getD k 0 + c) % 10 + 10 * ((a.getD k 0 + b.getD k 0 + c) / 10 + A + B) = c + (a.getD k 0 + 10 * A) + (b.getD k 0 + 10 * B) := by omega
    rw [e]; exact hv
theorem AddOk.done {a b L : List Nat} {k : Nat} (h : AddOk a b k 0 L) (ha : a.length ≤ k) (hb : b.length ≤ k) : Vd L = Vd a + Vd b := by
  have := h.val
  rw [List.drop_of_length_le ha, List.drop_of_length_le hb] at this
  simpa [Vd] using this
end Go.Ev
end

/- Lists of digits: AddNat walked. No condition. -/
noncomputable section
namespace Go.Ev
open Go.Proofs
variable [Lk]
set_option linter.unusedSectionVars false
set_option linter.unusedVariables false
set_option maxRecDepth 100000

/-- What is answered: digits that are worth n, in a block of the run's own. -/
structure Nd (z s : St) (v : Value) (n : Nat) (m : Nat) : Prop where
  ex : ∃ κ l, (∀ j, κ = some j → z.next ≤ j) ∧ Sd s κ v l ∧ Dl l ∧ Vd l = n ∧ l.length ≤ m
theorem addNat_spec {z : St} (wf : WF z) {κ κ' : Option Nat} {v w : Value} {l m : List Nat} (hv : Sd z κ v l) (hw : Sd z κ' w m) (hl : ∀ d ∈ l, d < 10) (hm : ∀ d ∈ m, d < 10) (hll : l.length ≤ 100000) (hml : m.length ≤ 100000) :
    Cw Tryz.prog 176 [v, w] z fun r s' => K0 z s' ∧ Nd z s' r (Vd l + Vd m) (max l.length m.length + 1) := by
  obtain ⟨a, c, rfl⟩ := hv.shape
  obtain ⟨a', c', rfl⟩ := hw.shape
  have hp : Hp (fun _ => False) z [slA κ (.slice a l.length c) 1 l.length (natI l), slA κ' (.slice a' m.length c') 1 m.length (natI m)] [] z := Hp.start _ wf _ (by simp; exact ⟨hv, hw⟩)
  refine Cw.enterS Tryz.func176 rfl rfl ?_
  refine Sm.seqW ?_
  conv => whnf
  refine Sm.seqW ?_
  conv => whnf
  refine Sm.seqW ?_
  conv => whnf
  refine Sm.live [0, 1, 5, 6] ?_
  conv => whnf
  refine Sm.seq ?_
  refine Sm.seqW ?_
  conv => whnf
  refine Sm.block ?_
  refine Sm.loop ?_
  refine Lp.ofS (α := Nat × Nat × List Nat × Option Nat × Value) (fun x => [(0, .slice a l.length c), (1, .slice a' m.length c'), (5, x.2.2.2.2), (6, .int .i64 (x.2.1 : Int)), (7, .int .i64 (x.1 : Int))])
    (fun x s' => AddOk l m x.1 x.2.1 x.2.2.1 ∧ (x.1 ≤ max l.length m.length ∨ (x.1 = max l.length m.length + 1 ∧ x.2.1 = 0)) ∧ Hp (fun _ => False) z [slA κ (.slice a l.length c) 1 l.length (natI l), slA κ' (.slice a' m.length c') 1 m.length (natI m)] [onA x.2.2.2.1 x.2.2.2.2 1 x.2.2.1.length (natI x.2.2.1)] s')
    (fun x => max l.length m.length + 1 - x.1) ?_ (0, 0, [], none, .slice none 0 0) (subK_ok (by refine ⟨rfl, rfl, rfl, rfl, rfl, trivial⟩)) ⟨⟨rfl, by simp, by decide, by simp [Vd]⟩, .inl (Nat.zero_le _), (hp.nilA 1).pik (by repeat (first | exact Pik.nil | exact Pik.refl _ | exact Rm.here | apply Rm.there | apply Pik.cons | apply Pik.skip))⟩
  clear hp
  rintro ⟨k, cy, L, κL, vL⟩ s ⟨ok, hk, hp⟩
  simp only at ok hk hp
  obtain ⟨aL, cL, rfl⟩ := (hp.slF (κ := κL) (v := vL) (by repeat (first | exact Rm.here | apply Rm.there))).shape
  have hLk := ok.len
  refine Sm.seq ?_
  refine Sm.seqC (fun e L' s' => e = .normal ∧ s' = s ∧ Sub [(0, .slice a l.length c), (1, .slice a' m.length c'), (5, .slice aL L.length cL), (6, .int .i64 (cy : Int)), (7, .int .i64 (k : Int)), (22, .bool (decide (k < l.length ∨ k < m.length ∨ 0 < cy)))] L') ?_ ?_
  · conv => whnf
    by_cases h1 : k < l.length
    · have d1 : decide ((k : Int) < (l.length : Int)) = true := decide_eq_true (by omega)
      repeat (first | (refine Br.yes d1 ?_; conv => whnf) | (refine Br.yes rfl ?_; conv => whnf))
      exact ⟨rfl, rfl, subK_ok ⟨rfl, rfl, rfl, rfl, rfl, congrArg (fun x => some (Value.bool x)) (by simp [h1]), trivial⟩⟩
    · have d1 : decide ((k : Int) < (l.length : Int)) = false := decide_eq_false (by omega)
      by_cases h2 : k < m.length
      · have d2 : decide ((k : Int) < (m.length : Int)) = true := decide_eq_true (by omega)
        repeat (first | (refine Br.no d1 ?_; conv => whnf) | (refine Br.yes d2 ?_; conv => whnf))
        exact ⟨rfl, rfl, subK_ok ⟨rfl, rfl, rfl, rfl, rfl, congrArg (fun x => some (Value.bool x)) (by simp [h2]), trivial⟩⟩
      · have d2 : decide ((k : Int) < (m.length : Int)) = false := decide_eq_false (by omega)
        repeat (first | (refine Br.no d1 ?_; conv => whnf) | (refine Br.no d2 ?_; conv => whnf))
        refine ⟨rfl, rfl, subK_ok ⟨rfl, rfl, rfl, rfl, rfl, congrArg (fun x => some (Value.bool x)) ?_, trivial⟩⟩
        show decide ((cy : Int) > 0) = _
        exact decide_eq_decide.2 (by omega)
  rintro e L' s' ⟨rfl, rfl, hs⟩
  refine Sm.weak _ hs ?_
  clear hs
  refine Sm.ofW ?_
  conv => whnf
  refine Br.mk (fun hc => ?_) (fun hc => ?_)
  · have hc : k < l.length ∨ k < m.length ∨ 0 < cy := of_decide_eq_true hc
    have hc1 := ok.c1
    have ok2 := ok.step hl hm
    have g1 := getD_lt hl k
    have g2 := getD_lt hm k
    have z1 : l.length ≤ k → l.getD k 0 = 0 := fun h => by rw [List.getD_eq_getElem?_getD, List.getElem?_eq_none h]; rfl
    have z2 : m.length ≤ k → m.getD k 0 = 0 := fun h => by rw [List.getD_eq_getElem?_getD, List.getElem?_eq_none h]; rfl
    conv => whnf
    refine Sm.seq (Sm.block ?_)
    refine Sm.seqW ?_
    conv => whnf
    refine (digit_spec _ (hp.slR .here) k).mono ?_
    rintro _ _ ⟨rfl, rfl⟩
    conv => whnf
    refine (digit_spec _ (hp.slR (.there .here)) k).mono ?_
    rintro _ _ ⟨rfl, rfl⟩
    conv => whnf
    generalize hA : l.getD k 0 = A at *
    generalize hB : m.getD k 0 = B at *
    have e1 : IntKind.i64.wrap (IntKind.i64.wrap ((A : Int) + (B : Int)) + (cy : Int)) = ((A + B + cy : Nat) : Int) := by
      rw [wi64 (n := (A : Int) + (B : Int)) (by omega) (by omega), wi64 (by omega) (by omega)]; push_cast; rfl
    rw [e1]
    refine Sm.live [0, 1, 5, 6, 7, 8] ?_
    conv => whnf
    refine Sm.seqW ?_
    conv => whnf
    refine Om.of _ (rem_nat (n := A + B + cy) (m := 10) (by decide)) ?_
    conv => whnf
    refine hp.one ID rfl ?_
    clear hp
    intro v4 b4 s hp _
    conv => whnf
    have x4 : Sl s (some b4) v4 1 1 [.int .i64 (((A + B + cy) % 10 : Nat) : Int)] := Own.sl (hp.okF _ List.mem_cons_self)
    refine hp.app ID Tryz.underlying128 rfl (κ := κL) (v := .slice aL L.length cL) (by repeat (first | exact Rm.here | apply Rm.there)) (elems_sl x4) rfl rfl (by omega) ?_
    clear hp x4
    intro v5 κ5 s hp
    have hnv : natI L ++ [.int .i64 (((A + B + cy) % 10 : Nat) : Int)] = natI (L ++ [(A + B + cy) % 10]) := by simp [natI]
    have hln : L.length + 1 = (L ++ [(A + B + cy) % 10]).length := by simp
    rw [hnv, hln] at hp
    conv => whnf
    refine Sm.ofW ?_
    conv => whnf
    refine Om.of _ (quo_nat (n := A + B + cy) (m := 10) (by decide) (by omega)) ?_
    conv => whnf
    refine Sm.ofW ?_
    conv => whnf
    have ek : IntKind.i64.wrap ((k : Int) + 1) = ((k + 1 : Nat) : Int) := by rw [wi64 (by omega) (by omega)]; push_cast; rfl
    refine ⟨(k + 1, (A + B + cy) / 10, L ++ [(A + B + cy) % 10], κ5, v5), by (show max l.length m.length + 1 - (k + 1) < max l.length m.length + 1 - k); omega, subK_ok (by refine ⟨rfl, rfl, rfl, rfl, congrArg (fun x => some (Value.int .i64 x)) ek, trivial⟩), ok2, ?_, hp.pik (by repeat (first | exact Pik.nil | exact Pik.refl _ | exact Rm.here | apply Rm.there | apply Pik.cons | apply Pik.skip))⟩
    show k + 1 ≤ max l.length m.length ∨ (k + 1 = max l.length m.length + 1 ∧ (A + B + cy) / 10 = 0)
    by_cases hkm : k + 1 ≤ max l.length m.length
    · exact .inl hkm
    · have := z1 (by omega)
      have := z2 (by omega)
      exact .inr ⟨by omega, by omega⟩
  · have hc : ¬ (k < l.length ∨ k < m.length ∨ 0 < cy) := of_decide_eq_false hc
    have hcy : cy = 0 := by omega
    subst hcy
    have hval := ok.done (by omega) (by omega)
    obtain ⟨t1, t2, t3⟩ := trim_ok L.length L rfl ok.lt
    conv => whnf
    refine Sm.seqW ?_
    conv => whnf
    have hsl := hp.slF (κ := κL) (v := .slice aL L.length cL) (n := L.length) (cs := natI L) (by repeat (first | exact Rm.here | apply Rm.there))
    have hown : ∀ j, κL = some j → z.next ≤ j := fun j hj => (hp.own _ List.mem_cons_self j hj).resolve_left (fun h => h)
    refine (trim_spec _ hsl (by omega)).mono ?_
    rintro r _ ⟨rfl, hr⟩
    conv => whnf
    refine Sm.ofW ?_
    conv => whnf
    exact ⟨hp.fr, κL, trimL L, hown, hr, t1, by rw [t2, hval], by omega⟩
end Go.Ev
end

/- Lists of digits: the radix. No condition. -/
noncomputable section
namespace Go.Ev
open Go.Proofs
variable [Lk]
set_option linter.unusedSectionVars false
set_option linter.unusedVariables false
set_option maxRecDepth 100000

theorem Nd.base {z y s : St} {v : Value} {n m : Nat} (h : Nd y s v n m) (k : z.next ≤ y.next) : Nd z s v n m := by
  obtain ⟨κ, l, h1, h2⟩ := h.ex
  exact ⟨κ, l, fun j hj => Nat.le_trans k (h1 j hj), h2⟩
theorem radix_spec {z : St} (wf : WF z) : Cw Tryz.prog 155 [] z fun r s' => K0 z s' ∧ Nd z s' r w64 21 := by
  have hp : Hp (fun _ => False) z [] [] z := Hp.start _ wf _ (by simp)
  have hlen : (dg 18446744073709551615).length ≤ 20 := dg_len 20 _ (by decide)
  refine Cw.enterS Tryz.func155 rfl rfl ?_
  refine Sm.seqW ?_
  conv => whnf
  refine Sm.seqW ?_
  conv => whnf
  refine hp.callO (word_spec hp.wf (n := 18446744073709551615) (by decide)) ?_
  clear hp
  intro v1 κ1 s hp _
  conv => whnf
  refine hp.one ID rfl ?_
  clear hp
  intro v2 b2 s hp _
  conv => whnf
  have h1 := hp.slF (κ := κ1) (v := v1) (n := (dg 18446744073709551615).length) (cs := natI (dg 18446744073709551615)) (by repeat (first | exact Rm.here | apply Rm.there))
  have h2 : Sd s (some b2) v2 [1] := Own.sl (hp.okF _ List.mem_cons_self)
  refine hp.call (addNat_spec hp.wf (l := dg 18446744073709551615) (m := [1]) h1 h2 (dg_lt _) (by decide) (by omega) (by decide)) ?_
  have hnx := hp.fr.next
  clear hp
  intro r s' hr hp _
  conv => whnf
  refine Sm.ofW ?_
  conv => whnf
  refine ⟨hp.fr, ?_⟩
  have h3 := hr.base hnx
  rw [Vd_dg] at h3
  obtain ⟨κ, l, g1, g2, g3, g4, g5⟩ := h3.ex
  exact ⟨κ, l, g1, g2, g3, g4, by
    have : [1].length = 1 := rfl
    omega⟩
end Go.Ev
end

/- Lists of digits: differences, without a program. No condition. -/
noncomputable section
namespace Go.Ev
open Go.Proofs
variable [Lk]
set_option linter.unusedSectionVars false
set_option linter.unusedVariables false
set_option maxRecDepth 100000

theorem Vd_take (l : List Nat) (k : Nat) : Vd (l.take (k + 1)) = Vd (l.take k) + 10 ^ k * l.getD k 0 := by
  by_cases h : k < l.length
  · rw [List.take_succ_eq_append_getElem h, Vd_snoc, List.getD_eq_getElem?_getD, List.getElem?_eq_getElem h]
    have : (l.take k).length = k := by simp; omega
    rw [this]; rfl
  · rw [List.take_of_length_le (by omega), List.take_of_length_le (by omega), List.getD_eq_getElem?_getD, List.getElem?_eq_none (by omega)]
    simp
/-- What stands while a number is taken from another, digit by digit. -/
structure SubOk (a b : List Nat) (k c : Nat) (L : List Nat) : Prop where
  len : L.length = k
  lt : ∀ d ∈ L, d < 10
  c1 : c ≤ 1
  val : Vd L + Vd (b.take k) = Vd (a.take k) + 10 ^ k * c
theorem SubOk.start (a b : List Nat) : SubOk a b 0 0 [] := ⟨rfl, by simp, by decide, by simp [Vd]⟩
/-- The next digit, and what is borrowed. -/
theorem SubOk.step {a b L : List Nat} {k c : Nat} (h : SubOk a b k c L) (ha : ∀ d ∈ a, d < 10) (hb : ∀ d ∈ b, d < 10) :
    (a.getD k 0 < b.getD k 0 + c → SubOk a b (k + 1) 1 (L ++ [a.getD k 0 + 10 - b.getD k 0 - c])) ∧ (¬ a.getD k 0 < b.getD k 0 + c → SubOk a b (k + 1) 0 (L ++ [a.getD k 0 - b.getD k 0 - c])) := by
  have h1 := getD_lt ha k
  have h2 := getD_lt hb k
  have h3 := h.c1
  have hv := h.val
  have mem : ∀ x, x < 10 → ∀ d ∈ L ++ [x], d < 10 := fun x hx d hd => by
    rcases List.mem_append.1 hd with g | g
    · exact h.lt d g
    · rw [List.mem_singleton] at g; subst g; exact hx
  refine ⟨fun hlt => ⟨by simp [h.len], mem _ (by omega), by decide, ?_⟩, fun hlt => ⟨by simp [h.len], mem _ (by omega), by decide, ?_⟩⟩
  · rw [Vd_snoc, h.len, Vd_take, Vd_take, Nat.pow_succ]
    generalize a.getD k 0 = x at *
    generalize b.getD k 0 = y at *
    have e := congrArg (fun t => 10 ^ k * t) (show x + 10 - y - c + y + c = x + 10 by omega)
    simp only [Nat.mul_add] at e
    omega
  · rw [Vd_snoc, h.len, Vd_take, Vd_take]
    generalize a.getD k 0 = x at *
    generalize b.getD k 0 = y at *
    have e := congrArg (fun t => 10 ^ k * t) (show x - y - c + y + c = x by omega)
    simp only [Nat.mul_add] at e
    omega
theorem SubOk.done {a b L : List Nat} {c : Nat} (h : SubOk a b a.length c L) (ha : ∀ d ∈ a, d < 10) (hle : Vd b ≤ Vd a) : Vd L = Vd a - Vd b := by
  have hv := h.val
  rw [List.take_of_length_le (Nat.le_refl _)] at hv
  have hA := Vd_lt a ha
  have hL := Vd_lt L h.lt
  rw [h.len] at hL
  have hs := Vd_split b a.length
  have hc := h.c1
  generalize 10 ^ a.length = e at *
  have hz : e * Vd (b.drop a.length) = 0 := by
    cases hd : Vd (b.drop a.length) with
    | zero => rfl
    | succ n =>
      rw [hd, Nat.mul_succ] at hs
      omega
  have hcc : c = 0 ∨ c = 1 := by omega
  rcases hcc with rfl | rfl
  · omega
  · omega
end Go.Ev
end

/- Lists of digits: SubNat walked. No condition. -/
noncomputable section
namespace Go.Ev
open Go.Proofs
variable [Lk]
set_option linter.unusedSectionVars false
set_option linter.unusedVariables false
set_option maxRecDepth 100000

theorem subNat_spec {z : St} (wf : WF z) {κ κ' : Option Nat} {v w : Value} {l m : List Nat} (hv : Sd z κ v l) (hw : Sd z κ' w m) (hl : ∀ d ∈ l, d < 10) (hm : ∀ d ∈ m, d < 10) (hll : l.length ≤ 100000) (hml : m.length ≤ 100000) (hle : Vd m ≤ Vd l) :
    Cw Tryz.prog 184 [v, w] z fun r s' => K0 z s' ∧ Nd z s' r (Vd l - Vd m) l.length := by
  obtain ⟨a, c, rfl⟩ := hv.shape
  obtain ⟨a', c', rfl⟩ := hw.shape
  have hp : Hp (fun _ => False) z [slA κ (.slice a l.length c) 1 l.length (natI l), slA κ' (.slice a' m.length c') 1 m.length (natI m)] [] z := Hp.start _ wf _ (by simp; exact ⟨hv, hw⟩)
  refine Cw.enterS Tryz.func184 rfl rfl ?_
  refine Sm.seqW ?_
  conv => whnf
  refine Sm.seqW ?_
  conv => whnf
  refine Sm.seqW ?_
  conv => whnf
  refine Sm.live [0, 1, 5, 6] ?_
  conv => whnf
  refine Sm.seq ?_
  refine Sm.seqW ?_
  conv => whnf
  refine Sm.block ?_
  refine Sm.loop ?_
  refine Lp.ofS (α := Nat × Nat × List Nat × Option Nat × Value) (fun x => [(0, .slice a l.length c), (1, .slice a' m.length c'), (5, x.2.2.2.2), (6, .int .i64 (x.2.1 : Int)), (7, .int .i64 (x.1 : Int))])
    (fun x s' => SubOk l m x.1 x.2.1 x.2.2.1 ∧ x.1 ≤ l.length ∧ Hp (fun _ => False) z [slA κ (.slice a l.length c) 1 l.length (natI l), slA κ' (.slice a' m.length c') 1 m.length (natI m)] [onA x.2.2.2.1 x.2.2.2.2 1 x.2.2.1.length (natI x.2.2.1)] s')
    (fun x => l.length - x.1) ?_ (0, 0, [], none, .slice none 0 0) (subK_ok (by refine ⟨rfl, rfl, rfl, rfl, rfl, trivial⟩)) ⟨SubOk.start l m, Nat.zero_le _, (hp.nilA 1).pik (by repeat (first | exact Pik.nil | exact Pik.refl _ | exact Rm.here | apply Rm.there | apply Pik.cons | apply Pik.skip))⟩
  clear hp
  rintro ⟨k, cy, L, κL, vL⟩ s ⟨ok, hk, hp⟩
  simp only at ok hk hp
  obtain ⟨aL, cL, rfl⟩ := (hp.slF (κ := κL) (v := vL) (by repeat (first | exact Rm.here | apply Rm.there))).shape
  have hLk := ok.len
  refine Sm.seq ?_
  refine Sm.seqW ?_
  conv => whnf
  refine Sm.ofW ?_
  conv => whnf
  refine Br.mk (fun hc => ?_) (fun hc => ?_)
  · have hc : k < l.length := by have h : (k : Int) < (l.length : Int) := of_decide_eq_true hc; omega
    have hc1 := ok.c1
    obtain ⟨st1, st2⟩ := ok.step hl hm
    have g1 := getD_lt hl k
    have g2 := getD_lt hm k
    have hgl : l.getD k 0 = l[k] := by rw [List.getD_eq_getElem?_getD, List.getElem?_eq_getElem hc]; rfl
    conv => whnf
    refine Sm.seq (Sm.block ?_)
    refine Sm.seqW ?_
    conv => whnf
    refine ⟨[0, 0, 3, 7, 0, 0, 48, 127, 0, 511, 1023], by decide +kernel, by decide +kernel, ?_⟩
    conv => whnf
    obtain ⟨p, e1, e2⟩ := dig_at (hp.slR .here) hc
    rw [← hgl] at e2
    refine Om.of _ e1 ?_
    conv => whnf
    refine Om.of _ e2 ?_
    conv => whnf
    clear e1 e2
    refine (digit_spec _ (hp.rst.slR (.there .here)) k).mono ?_
    rintro _ _ ⟨rfl, rfl⟩
    conv => whnf
    refine hp.dkS ?_
    conv => whnf
    generalize hA : l.getD k 0 = A at *
    generalize hB : m.getD k 0 = B at *
    have e1 : IntKind.i64.wrap (IntKind.i64.wrap ((A : Int) - (B : Int)) - (cy : Int)) = (A : Int) - B - cy := by
      rw [wi64 (n := (A : Int) - (B : Int)) (by omega) (by omega), wi64 (by omega) (by omega)]
    rw [e1]
    refine Sm.live [0, 1, 5, 7, 8] ?_
    conv => whnf
    refine Sm.seqW ?_
    conv => whnf
    obtain ⟨x, cy2, ok2, hx⟩ : ∃ x cy2 : Nat, SubOk l m (k + 1) cy2 (L ++ [x]) ∧ ((((A : Int) - B - cy < 0) ∧ (x : Int) = (A : Int) - B - cy + 10 ∧ cy2 = 1) ∨ (¬ ((A : Int) - B - cy < 0) ∧ (x : Int) = (A : Int) - B - cy ∧ cy2 = 0)) := by
      by_cases h : A < B + cy
      · exact ⟨_, 1, st1 h, .inl ⟨by omega, by omega, rfl⟩⟩
      · exact ⟨_, 0, st2 h, .inr ⟨by omega, by omega, rfl⟩⟩
    have hxb : x < 100 := by omega
    refine Sm.seqC (fun e L' s' => e = .normal ∧ s' = s ∧ Sub [(0, .slice a l.length c), (1, .slice a' m.length c'), (5, .slice aL L.length cL), (6, .int .i64 (cy2 : Int)), (7, .int .i64 (k : Int)), (8, .int .i64 (x : Int))] L') ?_ ?_
    · conv => whnf
      refine Br.mk (fun hq => ?_) (fun hq => ?_)
      · have hq := of_decide_eq_true hq
        rcases hx with ⟨h1, h2, rfl⟩ | ⟨h1, _, _⟩
        · conv => whnf
          have e3 : IntKind.i64.wrap ((A : Int) - B - cy + 10) = (x : Int) := by rw [wi64 (by omega) (by omega)]; exact h2.symm
          exact ⟨rfl, rfl, subK_ok ⟨rfl, rfl, rfl, rfl, rfl, congrArg (fun x => some (Value.int .i64 x)) e3, trivial⟩⟩
        · exact absurd hq h1
      · have hq := of_decide_eq_false hq
        rcases hx with ⟨h1, _, _⟩ | ⟨h1, h2, rfl⟩
        · exact absurd h1 hq
        · conv => whnf
          exact ⟨rfl, rfl, subK_ok ⟨rfl, rfl, rfl, rfl, rfl, congrArg (fun x => some (Value.int .i64 x)) h2.symm, trivial⟩⟩
    rintro e L' s' ⟨rfl, rfl, hs⟩
    refine Sm.weak _ hs ?_
    clear hs
    refine Sm.ofW ?_
    conv => whnf
    refine hp.one ID rfl ?_
    clear hp
    intro v4 b4 s hp _
    conv => whnf
    have x4 : Sl s (some b4) v4 1 1 [.int .i64 (x : Int)] := Own.sl (hp.okF _ List.mem_cons_self)
    refine hp.app ID Tryz.underlying128 rfl (κ := κL) (v := .slice aL L.length cL) (by repeat (first | exact Rm.here | apply Rm.there)) (elems_sl x4) rfl rfl (by omega) ?_
    clear hp x4
    intro v5 κ5 s hp
    have hnv : natI L ++ [.int .i64 (x : Int)] = natI (L ++ [x]) := by simp [natI]
    have hln : L.length + 1 = (L ++ [x]).length := by simp
    rw [hnv, hln] at hp
    conv => whnf
    refine Sm.ofW ?_
    conv => whnf
    have ek : IntKind.i64.wrap ((k : Int) + 1) = ((k + 1 : Nat) : Int) := by rw [wi64 (by omega) (by omega)]; push_cast; rfl
    exact ⟨(k + 1, cy2, L ++ [x], κ5, v5), by (show l.length - (k + 1) < l.length - k); omega, subK_ok (by refine ⟨rfl, rfl, rfl, rfl, congrArg (fun x => some (Value.int .i64 x)) ek, trivial⟩), ok2, hc, hp.pik (by repeat (first | exact Pik.nil | exact Pik.refl _ | exact Rm.here | apply Rm.there | apply Pik.cons | apply Pik.skip))⟩
  · have hc : k = l.length := by have h : ¬ (k : Int) < (l.length : Int) := of_decide_eq_false hc; omega
    subst hc
    have hval := ok.done hl hle
    obtain ⟨t1, t2, t3⟩ := trim_ok L.length L rfl ok.lt
    conv => whnf
    refine Sm.seqW ?_
    conv => whnf
    have hsl := hp.slF (κ := κL) (v := .slice aL L.length cL) (n := L.length) (cs := natI L) (by repeat (first | exact Rm.here | apply Rm.there))
    have hown : ∀ j, κL = some j → z.next ≤ j := fun j hj => (hp.own _ List.mem_cons_self j hj).resolve_left (fun h => h)
    refine (trim_spec _ hsl (by omega)).mono ?_
    rintro r _ ⟨rfl, hr⟩
    conv => whnf
    refine Sm.ofW ?_
    conv => whnf
    exact ⟨hp.fr, κL, trimL L, hown, hr, t1, by rw [t2, hval], by omega⟩
end Go.Ev
end

/- Lists of digits: long division, without a program. No condition. -/
noncomputable section
namespace Go.Ev
open Go.Proofs
variable [Lk]
set_option linter.unusedSectionVars false
set_option linter.unusedVariables false
set_option maxRecDepth 100000

theorem Vd_set : ∀ (l : List Nat) (k t : Nat) (h : k < l.length), Vd (l.set k t) + 10 ^ k * l[k] = Vd l + 10 ^ k * t
  | x :: l, 0, t, h => by simp [Vd]; omega
  | x :: l, k + 1, t, h => by
    have := Vd_set l k t (by simpa using h)
    simp only [List.set_cons_succ, Vd, List.getElem_cons_succ, Nat.pow_succ]
    rw [Nat.mul_comm (10 ^ k) 10, Nat.mul_assoc, Nat.mul_assoc]
    generalize 10 ^ k * l[k]'(by simpa using h) = p at *
    generalize 10 ^ k * t = q at *
    omega
theorem Vd_rep : ∀ n : Nat, Vd (List.replicate n 0) = 0
  | 0 => rfl
  | n + 1 => by rw [List.replicate_succ, Vd, Vd_rep n]
theorem Dl.nil : Dl [] := ⟨by simp, by simp⟩
theorem Dl.le {l m : List Nat} (hl : Dl l) (hm : Dl m) (h : Vd l ≤ Vd m) : l.length ≤ m.length := by
  rcases Nat.lt_or_ge m.length l.length with g | g
  · have := hm.shorter hl g; omega
  · exact g
/-- What stands while a number is divided by another, digit by digit: j digits are left. -/
structure DivOk (l m : List Nat) (j : Nat) (Q R : List Nat) : Prop where
  len : Q.length = l.length
  lt : ∀ d ∈ Q, d < 10
  zero : ∀ i, i < j → Q.getD i 0 = 0
  quo : Vd Q = 10 ^ j * (Vd (l.drop j) / Vd m)
  dl : Dl R
  rem : Vd R = Vd (l.drop j) % Vd m
theorem DivOk.start (l m : List Nat) : DivOk l m l.length (List.replicate l.length 0) [] := by
  refine ⟨by simp, fun d hd => ?_, fun i hi => ?_, ?_, .nil, ?_⟩
  · rw [List.mem_replicate] at hd; omega
  · rw [List.getD_eq_getElem?_getD]; simp [hi]
  · rw [Vd_rep, List.drop_length]; simp [Vd]
  · rw [List.drop_length]; simp [Vd]
/-- The digit that comes next: what is divided now is less than ten divisors. -/
theorem DivOk.cur {l m Q R : List Nat} {k : Nat} (h : DivOk l m (k + 1) Q R) (hk : k < l.length) (hl : ∀ d ∈ l, d < 10) (hm : 0 < Vd m) :
    Vd (l[k] :: R) < 10 * Vd m ∧ Vd (l[k] :: R) / Vd m < 10 := by
  have h1 := hl _ (List.getElem_mem hk)
  have h2 : Vd R < Vd m := by rw [h.rem]; exact Nat.mod_lt _ hm
  have h3 : Vd (l[k] :: R) < 10 * Vd m := by simp only [Vd]; omega
  exact ⟨h3, (Nat.div_lt_iff_lt_mul hm).2 h3⟩
theorem DivOk.step {l m Q R R' : List Nat} {k t : Nat} (h : DivOk l m (k + 1) Q R) (hk : k < l.length) (hl : ∀ d ∈ l, d < 10) (hm : 0 < Vd m) (ht : t = Vd (l[k] :: R) / Vd m) (hR : Vd R' = Vd (l[k] :: R) % Vd m) (hd : Dl R') :
    DivOk l m k (Q.set k t) R' := by
  obtain ⟨h1, h2⟩ := h.cur hk hl hm
  have hq : k < Q.length := by rw [h.len]; exact hk
  have hz : Q[k] = 0 := by
    have := h.zero k (Nat.lt_succ_self k)
    rw [List.getD_eq_getElem?_getD, List.getElem?_eq_getElem hq] at this
    exact this
  have hv := Vd_set Q k t hq
  rw [hz, Nat.mul_zero, Nat.add_zero, h.quo] at hv
  have hdr := Vd_drop hk
  have hrr := h.rem
  have hdm := Nat.div_add_mod (Vd (l.drop (k + 1))) (Vd m)
  rw [← hrr] at hdm
  have hcm := Nat.div_add_mod (Vd (l[k] :: R)) (Vd m)
  have hlt : Vd (l[k] :: R) % Vd m < Vd m := Nat.mod_lt _ hm
  have hA : Vd (l.drop k) = (10 * (Vd (l.drop (k + 1)) / Vd m) + t) * Vd m + Vd (l[k] :: R) % Vd m := by
    rw [hdr]
    simp only [Vd] at hcm ht ⊢
    rw [← ht] at hcm
    generalize (l[k] + 10 * Vd R) % Vd m = r2 at *
    generalize Vd (l.drop (k + 1)) / Vd m = X at *
    have e : (10 * X + t) * Vd m = 10 * (Vd m * X) + Vd m * t := by rw [Nat.add_mul, Nat.mul_assoc, Nat.mul_comm X, Nat.mul_comm t]
    rw [e]
    generalize Vd m * X = y1 at *
    generalize Vd m * t = y2 at *
    omega
  have hAd : Vd (l.drop k) / Vd m = 10 * (Vd (l.drop (k + 1)) / Vd m) + t := by
    rw [hA, Nat.mul_comm _ (Vd m), Nat.mul_add_div hm, Nat.div_eq_of_lt hlt, Nat.add_zero]
  have hAm : Vd (l.drop k) % Vd m = Vd (l[k] :: R) % Vd m := by
    rw [hA, Nat.mul_comm _ (Vd m), Nat.mul_add_mod, Nat.mod_mod]
  refine ⟨by simp [h.len], fun d hd2 => ?_, fun i hi => ?_, ?_, hd, by rw [hR, hAm]⟩
  · rcases List.mem_or_eq_of_mem_set hd2 with g | g
    · exact h.lt d g
    · omega
  · have := h.zero i (by omega)
    rw [List.getD_eq_getElem?_getD] at this ⊢
    rw [List.getElem?_set_ne (by omega)]
    exact this
  · rw [hv, hAd, Nat.pow_succ, Nat.mul_add, Nat.mul_assoc]
end Go.Ev
end

/- Lists of digits: DivNat walked. No condition. -/
noncomputable section
namespace Go.Ev
open Go.Proofs
variable [Lk]
set_option linter.unusedSectionVars false
set_option linter.unusedVariables false
set_option maxRecDepth 100000

theorem Hp.toOn {X : Nat → Prop} {s0 s : St} {R F G : List At} {k e n : Nat} {v : Value} {cs : List Value} (h : Hp X s0 R F s) (r : Rm (ownA k v e n cs) F G) : Hp X s0 R (onA (some k) v e n cs :: G) s :=
  h.as r (fun o => ⟨.inr ⟨k, rfl, o⟩⟩) fun j hj => by (injection hj with hj); exact hj.symm
/-- A part that is a slice's family, as another slice of it. -/
theorem Hp.toSl {X : Nat → Prop} {s0 s : St} {R F G : List At} {κ : Option Nat} {e n e' n' : Nat} {v v' : Value} {cs cs' : List Value} (h : Hp X s0 R F s) (r : Rm (onA κ v e n cs) F G) (o : Sl s κ v' e' n' cs') : Hp X s0 R (slA κ v' e' n' cs' :: G) s :=
  h.as r (fun _ => o) fun j hj => hj
/-- What a call answers, taken in. -/
theorem Hp.nd {X : Nat → Prop} {s0 s s' : St} {R F : List At} {v : Value} {n m : Nat} (h : Hp X s0 R F s) (k : K0 s s') (o : Nd s s' v n m) : ∃ κ l, Hp X s0 R (slA κ v 1 l.length (natI l) :: F) s' ∧ Dl l ∧ Vd l = n ∧ l.length ≤ m := by
  obtain ⟨κ, l, h1, h2, h3, h4, h5⟩ := o.ex
  exact ⟨κ, l, h.push (a := slA κ v 1 l.length (natI l)) k h2 h1, h3, h4, h5⟩
/-- A part of the run's own is answered. -/
theorem Hp.outN {s0 s : St} {R F G : List At} {κ : Option Nat} {v : Value} {l : List Nat} {n m : Nat} (h : Hp (fun _ => False) s0 R F s) (r : Rm (slA κ v 1 l.length (natI l)) F G) (h1 : Dl l) (h2 : Vd l = n) (h3 : l.length ≤ m) : Nd s0 s v n m :=
  ⟨κ, l, fun j hj => (h.own _ r.sub.1 j hj).resolve_left (fun h => h), h.okF _ r.sub.1, h1, h2, h3⟩
theorem natI_rep (n : Nat) : List.replicate n (Value.int .i64 0) = natI (List.replicate n 0) := by simp [natI]
theorem natI_set (l : List Nat) (k v : Nat) : (natI l).set k (.int .i64 (v : Int)) = natI (l.set k v) := by simp [natI, List.map_set]
theorem natI_get (l : List Nat) (k : Nat) (h : k < l.length) : (natI l)[k]? = some (.int .i64 (l[k] : Int)) := by simp [natI, h]
theorem divNat_spec {z : St} (wf : WF z) {κ κ' : Option Nat} {v w : Value} {l m : List Nat} (hv : Sd z κ v l) (hw : Sd z κ' w m) (hl : ∀ d ∈ l, d < 10) (hm : Dl m) (hll : l.length ≤ 50000) (hml : m.length ≤ 50000) (hpos : 0 < Vd m) :
    Cw Tryz.prog 154 [v, w] z fun r s' => K0 z s' ∧ ∃ vq vr, r = .tuple #[vq, vr] ∧ Nd z s' vq (Vd l / Vd m) l.length ∧ Nd z s' vr (Vd l % Vd m) m.length := by
  obtain ⟨a, c, rfl⟩ := hv.shape
  obtain ⟨a', c', rfl⟩ := hw.shape
  have hp : Hp (fun _ => False) z [slA κ (.slice a l.length c) 1 l.length (natI l), slA κ' (.slice a' m.length c') 1 m.length (natI m)] [] z := Hp.start _ wf _ (by simp; exact ⟨hv, hw⟩)
  refine Cw.enterS Tryz.func154 rfl rfl ?_
  refine Sm.seqW ?_
  conv => whnf
  refine Sm.seqW ?_
  conv => whnf
  refine hp.mks ID rfl l.length rfl rfl (by omega) ?_
  clear hp
  intro bq s hp _
  rw [natI_rep] at hp
  conv => whnf
  refine Sm.seqW ?_
  conv => whnf
  refine Sm.live [0, 1, 6, 7] ?_
  conv => whnf
  refine Sm.seq ?_
  refine Sm.seqW ?_
  conv => whnf
  refine Sm.block ?_
  refine Sm.loop ?_
  have e0 : IntKind.i64.wrap ((l.length : Int) - 1) = (l.length : Int) - 1 := wi64 (by omega) (by omega)
  refine Lp.ofS (α := Nat × List Nat × List Nat × Option Nat × Value) (fun x => [(0, .slice a l.length c), (1, .slice a' m.length c'), (6, .slice (some ⟨bq, 0, none⟩) l.length l.length), (7, x.2.2.2.2), (8, .int .i64 ((x.1 : Int) - 1))])
    (fun x s' => DivOk l m x.1 x.2.1 x.2.2.1 ∧ x.1 ≤ l.length ∧ Hp (fun _ => False) z [slA κ (.slice a l.length c) 1 l.length (natI l), slA κ' (.slice a' m.length c') 1 m.length (natI m)] [slA x.2.2.2.1 x.2.2.2.2 1 x.2.2.1.length (natI x.2.2.1), blkA bq bq (natI x.2.1) 1] s')
    (fun x => x.1) ?_ (l.length, List.replicate l.length 0, [], none, .slice none 0 0) (subK_ok (by refine ⟨rfl, rfl, rfl, rfl, congrArg (fun x => some (Value.int .i64 x)) e0, trivial⟩)) ⟨DivOk.start l m, Nat.le_refl _, ((hp.nilA 1).toSl (by repeat (first | exact Rm.here | apply Rm.there)) (Sl.nil _ _)).pik (by repeat (first | exact Pik.nil | exact Pik.refl _ | exact Rm.here | apply Rm.there | apply Pik.cons | apply Pik.skip))⟩
  clear hp
  rintro ⟨j, Q, R, κR, vR⟩ s ⟨ok, hj, hp⟩
  simp only at ok hj hp
  cases j with
  | zero =>
    refine Sm.seq ?_
    refine Sm.seqW ?_
    conv => whnf
    refine Sm.ofW ?_
    conv => whnf
    refine Br.no (rfl) ?_
    conv => whnf
    refine Sm.seqW ?_
    conv => whnf
    have hql := ok.len
    have hsq := hp.blkSl (n := l.length) (C := natI Q) (k := bq) (b := bq) (e := 1) (by repeat (first | exact Has.here | apply Has.there | (apply Has.swap; repeat (first | exact HasR.here | apply HasR.there)))) (by rw [natI_len]; omega)
    rw [← hql] at hsq
    rw [← hql]
    obtain ⟨t1, t2, t3⟩ := trim_ok Q.length Q rfl ok.lt
    refine (trim_spec _ hsq (by omega)).mono ?_
    rintro r _ ⟨rfl, hr⟩
    conv => whnf
    refine Sm.ofW ?_
    conv => whnf
    refine ⟨hp.fr, _, _, rfl, ⟨some bq, trimL Q, fun j hj => ?_, hr, t1, ?_, by omega⟩, hp.outN (by repeat (first | exact Rm.here | apply Rm.there)) ok.dl (by rw [ok.rem, List.drop_zero]) ?_⟩
    · exact (hp.own (blkA bq bq (natI Q) 1) (by simp) j (by injection hj with hj; exact hj.symm)).resolve_left fun h => h
    · rw [t2, ok.quo, List.drop_zero]; simp
    · refine ok.dl.le hm ?_
      rw [ok.rem]
      exact Nat.le_of_lt (Nat.mod_lt _ hpos)
  | succ k =>
    have hk : k < l.length := by omega
    obtain ⟨c1, c2⟩ := ok.cur hk hl hpos
    have hRl : R.length ≤ m.length := ok.dl.le hm (by rw [ok.rem]; exact Nat.le_of_lt (Nat.mod_lt _ hpos))
    refine Sm.weak [(0, .slice a l.length c), (1, .slice a' m.length c'), (6, .slice (some ⟨bq, 0, none⟩) l.length l.length), (7, vR), (8, .int .i64 (k : Int))] (subK_ok ⟨rfl, rfl, rfl, rfl, congrArg (fun x => some (Value.int .i64 x)) (show ((k + 1 : Nat) : Int) - 1 = (k : Int) by push_cast; omega), trivial⟩) ?_
    have hk0 : decide ((k : Int) ≥ 0) = true := decide_eq_true (by omega)
    refine Sm.seq ?_
    refine Sm.seqW ?_
    conv => whnf
    refine Sm.ofW ?_
    conv => whnf
    refine Br.yes (hk0) ?_
    conv => whnf
    refine Sm.seq ?_
    refine Sm.block ?_
    refine Sm.seqW ?_
    conv => whnf
    obtain ⟨p, e1, e2⟩ := dig_at (hp.slR .here) hk
    refine Om.of _ (e1) ?_
    conv => whnf
    refine Om.of _ (e2) ?_
    conv => whnf
    clear e1 e2
    obtain ⟨aR, cR, rfl⟩ := Sl.shape (show Sl s κR vR 1 R.length (natI R) from hp.okF (slA κR vR 1 R.length (natI R)) (by simp))
    refine hp.one ID rfl ?_
    clear hp
    intro v4 b4 s hp _
    conv => whnf
    have x4 : Sl s κR (.slice aR R.length cR) 1 R.length (natI R) := hp.okF (slA κR (.slice aR R.length cR) 1 R.length (natI R)) (by simp)
    obtain ⟨a4, c4, rfl⟩ := (hp.okF _ List.mem_cons_self : Own s b4 v4 1 1 _).sl.shape
    refine (hp.toOn (k := b4) (by repeat (first | exact Rm.here | apply Rm.there))).app ID Tryz.underlying128 rfl (κ := some b4) (v := .slice a4 1 c4) (by repeat (first | exact Rm.here | apply Rm.there)) (elems_sl x4) (by rw [natI_len]; omega) (by simp [natI]; intros; rfl) (by omega) ?_
    clear hp x4
    intro v5 κ5 s hp
    have hnv : [Value.int .i64 ((l[k] : Nat) : Int)] ++ natI R = natI (l[k] :: R) := by simp [natI]
    have hln : 1 + R.length = (l[k] :: R).length := by simp; omega
    rw [hnv, hln] at hp
    conv => whnf
    have hlc : (l[k] :: R).length = R.length + 1 := by simp
    have hd10 : ∀ d ∈ l[k] :: R, d < 10 := fun d hd => by
      rcases List.mem_cons.1 hd with g | g
      · rw [g]; exact hl _ (List.getElem_mem hk)
      · exact ok.dl.lt d g
    obtain ⟨t1, t2, t3⟩ := trim_ok _ (l[k] :: R) rfl hd10
    refine (trim_spec _ (hp.slF (by repeat (first | exact Rm.here | apply Rm.there))) (by omega)).mono ?_
    rintro v6 _ ⟨rfl, hr⟩
    replace hp := (hp.toSl (by repeat (first | exact Rm.here | apply Rm.there)) hr).pik (G := [slA κ5 v6 1 (trimL (l[k] :: R)).length (natI (trimL (l[k] :: R))), blkA bq bq (natI Q) 1]) (by repeat (first | exact Pik.nil | exact Pik.refl _ | exact Rm.here | apply Rm.there | apply Pik.cons | apply Pik.skip))
    clear hr
    generalize hT : trimL (l[k] :: R) = T at *
    generalize hcur : Vd (l[k] :: R) = cur at *
    conv => whnf
    refine Sm.block ?_
    refine Sm.loop ?_
    refine Lp.ofS (α := Nat × List Nat × Option Nat × Value) (fun x => [(0, .slice a l.length c), (1, .slice a' m.length c'), (6, .slice (some ⟨bq, 0, none⟩) l.length l.length), (7, x.2.2.2), (8, .int .i64 (k : Int))])
      (fun x s' => Vd x.2.1 + x.1 * Vd m = cur ∧ Dl x.2.1 ∧ x.2.1.length ≤ m.length + 1 ∧ Hp (fun _ => False) z [slA κ (.slice a l.length c) 1 l.length (natI l), slA κ' (.slice a' m.length c') 1 m.length (natI m)] [slA x.2.2.1 x.2.2.2 1 x.2.1.length (natI x.2.1), blkA bq bq (natI (Q.set k x.1)) 1] s')
      (fun x => Vd x.2.1) ?_ (0, T, κ5, v6) (subK_ok (by refine ⟨rfl, rfl, rfl, rfl, rfl, trivial⟩)) ⟨by simp only; omega, t1, by simp only; omega, ?_⟩
    rotate_left
    · have : Q.set k 0 = Q := by
        refine List.ext_getElem? fun i => ?_
        by_cases hi : i = k
        · subst hi
          have h1 := ok.zero i (Nat.lt_succ_self i)
          have h2 : i < Q.length := by rw [ok.len]; exact hk
          rw [List.getD_eq_getElem?_getD, List.getElem?_eq_getElem h2] at h1
          rw [List.getElem?_set_self h2, List.getElem?_eq_getElem h2]
          exact congrArg some h1.symm
        · rw [List.getElem?_set_ne (by omega)]
      rw [this]; exact hp
    clear hp
    rintro ⟨t, T, κT, vT⟩ s ⟨hv, hd, hTl, hp⟩
    simp only at hv hd hTl hp
    refine Sm.seq ?_
    refine Sm.seqW ?_
    conv => whnf
    refine (cmpNat_spec _ (hp.okF (slA κT vT 1 T.length (natI T)) (by simp)) (hp.slR (.there .here)) hd hm (by omega) (by omega)).mono ?_
    rintro _ _ ⟨rfl, rfl⟩
    conv => whnf
    refine Sm.ofW ?_
    conv => whnf
    have hcm := Nat.div_add_mod cur (Vd m)
    have hlt : cur % Vd m < Vd m := Nat.mod_lt _ hpos
    have ek : IntKind.i64.wrap ((k : Int) - 1) = (k : Int) - 1 := wi64 (by omega) (by omega)
    refine Br.mk (fun hc => ?_) (fun hc => ?_)
    · have hge : Vd m ≤ Vd T := by
        have hc : cmpI (Vd T) (Vd m) ≥ 0 := of_decide_eq_true hc
        unfold cmpI at hc
        by_cases h : Vd T < Vd m
        · rw [if_pos h] at hc; omega
        · omega
      have htl : t < 10 := by
        have : t * Vd m < 10 * Vd m := by omega
        exact Nat.lt_of_mul_lt_mul_right this
      conv => whnf
      refine Sm.block ?_
      refine Sm.seqW ?_
      conv => whnf
      have hnx := hp.fr.next
      refine hp.call (subNat_spec hp.wf (hp.okF (slA κT vT 1 T.length (natI T)) (by simp)) (hp.slR (.there .here)) hd.lt hm.lt (by omega) (by omega) hge) ?_
      intro v7 s7 hr hp7 k7
      obtain ⟨κ7, T7, hp7, d7, e7, l7⟩ := hp.nd k7 hr
      clear hp
      replace hp := hp7.pik (G := [slA κ7 v7 1 T7.length (natI T7), blkA bq bq (natI (Q.set k t)) 1]) (by repeat (first | exact Pik.nil | exact Pik.refl _ | exact Rm.here | apply Rm.there | apply Pik.cons | apply Pik.skip))
      clear hp7 hr k7
      generalize s7 = s at hp
      conv => whnf
      refine Sm.ofW ?_
      conv => whnf
      have hql : k < (Q.set k t).length := by simp [ok.len]; exact hk
      have hix := idx_at (P := Tryz.prog) ID (b := bq) (off := 0) (c := l.length) .i64 hk
      refine Om.of _ (hix) ?_
      conv => whnf
      refine hp.load (by repeat (first | exact Has.here | apply Has.there | (apply Has.swap; repeat (first | exact HasR.here | apply HasR.there)))) (show (natI (Q.set k t))[0 + k * 1]? = some (.int .i64 ((Q.set k t)[k] : Int)) by rw [Nat.zero_add, Nat.mul_one]; exact natI_get _ _ hql) rfl rfl rfl ?_
      rw [List.getElem_set_self]
      conv => whnf
      refine Om.of _ (hix) ?_
      conv => whnf
      refine hp.store (by repeat (first | exact Rm.here | apply Rm.there)) (by rw [natI_len]; omega) rfl rfl rfl rfl ?_
      clear hp
      intro s hp _
      have et : IntKind.i64.wrap ((t : Int) + 1) = ((t + 1 : Nat) : Int) := by rw [wi64 (by omega) (by omega)]; push_cast; rfl
      rw [et, show 0 + k * 1 = k by omega, natI_set, List.set_set] at hp
      conv => whnf
      refine ⟨(t + 1, T7, κ7, v7), by (show Vd T7 < Vd T); omega, subK_ok (by refine ⟨rfl, rfl, rfl, rfl, rfl, trivial⟩), ?_, d7, by (show T7.length ≤ m.length + 1); omega, hp.pik (by repeat (first | exact Pik.nil | exact Pik.refl _ | exact Rm.here | apply Rm.there | apply Pik.cons | apply Pik.skip))⟩
      show Vd T7 + (t + 1) * Vd m = cur
      rw [e7, Nat.add_mul]; omega
    · have hlT : Vd T < Vd m := by
        have hc : ¬ cmpI (Vd T) (Vd m) ≥ 0 := of_decide_eq_false hc
        unfold cmpI at hc
        by_cases h : Vd T < Vd m
        · exact h
        · rw [if_neg h] at hc; split at hc <;> omega
      have hq : t = cur / Vd m ∧ Vd T = cur % Vd m := by
        rw [← hv, Nat.add_mul_div_right _ _ hpos, Nat.add_mul_mod_self_right, Nat.div_eq_of_lt hlT, Nat.mod_eq_of_lt hlT]; omega
      conv => whnf
      refine Sm.ofW ?_
      conv => whnf
      exact ⟨(k, Q.set k t, T, κT, vT), Nat.lt_succ_self k, subK_ok (by refine ⟨rfl, rfl, rfl, rfl, congrArg (fun x => some (Value.int .i64 x)) ek, trivial⟩), ok.step hk hl hpos (by rw [hcur]; exact hq.1) (by rw [hcur]; exact hq.2) hd, by (show k ≤ l.length); omega, hp⟩
end Go.Ev
end

/- Lists of digits: Words2, Make, Of. No condition. -/
noncomputable section
namespace Go.Ev
open Go.Proofs
variable [Lk]
set_option linter.unusedSectionVars false
set_option linter.unusedVariables false
set_option maxRecDepth 100000

/-- What is answered, taken apart. -/
theorem Nd.get {z s : St} {v : Value} {n m : Nat} (h : Nd z s v n m) : ∃ κ l, Sd s κ v l ∧ Dl l ∧ Vd l = n ∧ l.length ≤ m := by
  obtain ⟨κ, l, h1, h2, h3, h4, h5⟩ := h.ex
  exact ⟨κ, l, h2, h3, h4, h5⟩
theorem words2_spec {z : St} (wf : WF z) {κ : Option Nat} {v : Value} {l : List Nat} (hv : Sd z κ v l) (hl : ∀ d ∈ l, d < 10) (hll : l.length ≤ 50000) :
    Cw Tryz.prog 113 [v] z fun r s' => K0 z s' ∧ r = shortR (Vd l) := by
  have hp : Hp (fun _ => False) z [slA κ v 1 l.length (natI l)] [] z := Hp.start _ wf _ (by simp; exact hv)
  refine Cw.enterS Tryz.func113 rfl rfl ?_
  refine Sm.seqW ?_
  conv => whnf
  refine hp.alloc (cs := C2 0 0) (e := 1) rfl rfl rfl rfl rfl ?_
  clear hp
  intro p2 s hp _
  conv => whnf
  refine Sm.seqW ?_
  conv => whnf
  refine hp.call (radix_spec hp.wf) ?_
  intro v8 s8 hr hp8 k8
  obtain ⟨κ8, l8, hp9, d8, e8, n8⟩ := hp.nd k8 hr
  clear hp hp8 hr k8
  generalize s8 = s at hp9
  have hp := hp9
  clear hp9
  conv => whnf
  refine hp.call (divNat_spec hp.wf (hp.slR .here) (hp.okF (slA κ8 v8 1 l8.length (natI l8)) (by simp)) hl d8 hll (by omega) (by rw [e8]; decide)) ?_
  rintro r s9 ⟨vq, vr, rfl, hq, hrr⟩ hp9 k9
  obtain ⟨κq, lq, hpq, dq, eq, nq⟩ := hp.nd k9 hq
  obtain ⟨κr, lr, hr1, dr, er, nr⟩ := hrr.get
  rw [e8] at eq er
  clear hp hp9 hq hrr
  replace hpq := (hpq.pik (G := [slA κq vq 1 lq.length (natI lq), blkA p2 p2 (C2 0 0) 1]) (by repeat (first | exact Pik.nil | exact Pik.refl _ | exact Rm.here | apply Rm.there | apply Pik.cons | apply Pik.skip)))
  conv => whnf
  refine Sm.seq ?_
  refine Sm.seqW ?_
  conv => whnf
  refine hpq.call (radix_spec hpq.wf) ?_
  intro v10 s10 hr10 hp10 k10
  have hr2 : Sd s10 κr vr lr := hr1.keep0 k10
  obtain ⟨κ10, l10, hp11, d10, e10, n10⟩ := hpq.nd k10 hr10
  clear hpq hp10 hr10 k10 hr1
  have hp := hp11
  clear hp11
  conv => whnf
  refine (cmpNat_spec _ (hp.okF (slA κq vq 1 lq.length (natI lq)) (by simp)) (hp.okF (slA κ10 v10 1 l10.length (natI l10)) (by simp)) dq d10 (by omega) (by omega)).mono ?_
  rintro _ _ ⟨rfl, rfl⟩
  rw [eq, e10]
  conv => whnf
  refine Sm.ofW ?_
  conv => whnf
  by_cases hb : Vd l < w128
  · have hq2 : Vd l / w64 < w64 := by simp only [w64, w128] at *; omega
    have hc : decide (cmpI (Vd l / w64) w64 ≥ 0) = false := decide_eq_false (by unfold cmpI; rw [if_pos hq2]; decide)
    refine Br.no (hc) ?_
    conv => whnf
    refine Sm.seqW ?_
    conv => whnf
    refine (short_spec _ hr2 (by omega) dr.lt (by rw [er]; exact Nat.mod_lt _ (by decide))).mono ?_
    rintro _ _ ⟨rfl, rfl⟩
    conv => whnf
    refine (short_spec _ (hp.okF (slA κq vq 1 lq.length (natI lq)) (by simp)) (by omega) dq.lt (by rw [eq]; exact hq2)).mono ?_
    rintro _ _ ⟨rfl, rfl⟩
    rw [eq, er]
    conv => whnf
    refine hp.storeW (vs := C2 (Vd l % w64) (Vd l / w64)) rfl (by repeat (first | exact Rm.here | apply Rm.there)) (by first | exact C2_same _ _ _ _ | exact C4_same _ _ _ _ _ _ _ _ | exact Dc_same _ _ | rfl) rfl rfl rfl ?_
    clear hp
    intro s hp _
    conv => whnf
    refine Sm.ofW ?_
    conv => whnf
    refine hp.loadA (l := C2 (Vd l % w64) (Vd l / w64)) (by repeat (first | exact Has.here | apply Has.there | (apply Has.swap; repeat (first | exact HasR.here | apply HasR.there)))) rfl (by rfl) rfl rfl ?_
    conv => whnf
    refine ⟨hp.fr, ?_⟩
    unfold shortR
    rw [if_pos hb]
    rfl
  · have hq2 : ¬ Vd l / w64 < w64 := by simp only [w64, w128] at *; omega
    have hc : decide (cmpI (Vd l / w64) w64 ≥ 0) = true := decide_eq_true (by unfold cmpI; rw [if_neg hq2]; split <;> decide)
    refine Br.yes (hc) ?_
    conv => whnf
    refine hp.storeW (vs := C2 0 0) rfl (by repeat (first | exact Rm.here | apply Rm.there)) (by first | exact C2_same _ _ _ _ | exact C4_same _ _ _ _ _ _ _ _ | exact Dc_same _ _ | rfl) rfl rfl rfl ?_
    clear hp
    intro s hp _
    conv => whnf
    refine hp.loadA (l := C2 0 0) (by repeat (first | exact Has.here | apply Has.there | (apply Has.swap; repeat (first | exact HasR.here | apply HasR.there)))) rfl (by rfl) rfl rfl ?_
    conv => whnf
    refine ⟨hp.fr, ?_⟩
    unfold shortR
    rw [if_neg hb]
    rfl
def makeF (neg : Bool) (n : Nat) (sc : Int) : Value := if sc < 0 ∨ 9 < sc then errD 3 else dmade neg n sc
theorem Dl.small {l : List Nat} (h : Dl l) (k : Nat) : Vd l < 10 ^ k ↔ l.length ≤ k := by
  constructor
  · intro hv
    rcases Nat.lt_or_ge k l.length with g | g
    · have h1 := h.ge (by omega)
      have h2 : 10 ^ k ≤ 10 ^ (l.length - 1) := Nat.pow_le_pow_right (by decide) (by omega)
      omega
    · exact g
  · intro hl
    have h1 := Vd_lt l h.lt
    have h2 : 10 ^ l.length ≤ 10 ^ k := Nat.pow_le_pow_right (by decide) hl
    omega
theorem Dl.zero {l : List Nat} (h : Dl l) : Vd l = 0 ↔ l.length = 0 := by
  have := h.small 0
  simp at this
  constructor
  · intro g; have := this.1 g; rw [this]; rfl
  · intro g; exact this.2 (List.length_eq_zero_iff.1 g)
theorem dg_dl (n : Nat) : Dl (dg n) := by
  refine ⟨dg_lt n, ?_⟩
  induction n using Nat.strongRecOn with
  | _ n ih =>
    intro h
    by_cases h0 : n = 0
    · subst h0
      have : dg 0 = [] := by rw [dg]; simp
      rw [this] at h
      exact absurd h (by decide)
    · have e : dg n = n % 10 :: dg (n / 10) := by
        conv => lhs; rw [dg]
        rw [if_neg h0]
      by_cases h1 : n / 10 = 0
      · have e1 : dg (n / 10) = [] := by rw [h1, dg]; simp
        simp only [e, e1]
        simp
        omega
      · have := ih (n / 10) (by omega)
        have hp : 0 < (dg (n / 10)).length := by rw [dg, if_neg h1]; simp
        have h2 := this hp
        simp only [e]
        have e3 : (n % 10 :: dg (n / 10)).length - 1 = ((dg (n / 10)).length - 1) + 1 := by simp; omega
        simp only [e3, List.getElem_cons_succ]
        exact h2
theorem make_spec {z : St} (wf : WF z) (neg : Bool) {κ : Option Nat} {v : Value} {l : List Nat} (hv : Sd z κ v l) (hl : Dl l) (hll : l.length ≤ 50000) (sc : Int) :
    Cw Tryz.prog 61 [.bool neg, v, .int .i64 sc] z fun r s' => K0 z s' ∧ r = makeF neg (Vd l) sc := by
  have hp : Hp (fun _ => False) z [slA κ v 1 l.length (natI l)] [] z := Hp.start _ wf _ (by simp; exact hv)
  obtain ⟨a, c, rfl⟩ := hv.shape
  have hs30 := hl.small 30
  refine Cw.enterS Tryz.func61 rfl rfl ?_
  refine Sm.seqW ?_
  conv => whnf
  refine hp.alloc (cs := Dc.zero.cells) (e := 4) rfl rfl rfl rfl rfl ?_
  clear hp
  intro p6 s hp _
  conv => whnf
  refine Sm.live [0, 1, 2, 6] ?_
  conv => whnf
  refine Sm.seq ?_
  refine Sm.seqC (fun e L' s' => e = .normal ∧ s' = s ∧ Sub [(0, .bool neg), (1, .slice a l.length c), (2, .int .i64 sc), (6, .pointer (some ⟨p6, 0, none⟩)), (20, .bool (decide (30 < l.length ∨ sc < 0 ∨ 9 < sc)))] L') ?_ ?_
  · conv => whnf
    repeat' (first | (refine Br.yes (by first | with_reducible rfl | with_reducible assumption) ?_; conv => whnf) | (refine Br.no (by first | with_reducible rfl | with_reducible assumption) ?_; conv => whnf) | (refine Br.mk (fun hq => ?_) (fun hq => ?_) <;> conv => whnf))
    all_goals refine ⟨rfl, rfl, subK_ok ⟨rfl, rfl, rfl, rfl, congrArg (fun x => some (Value.bool x)) ?_, trivial⟩⟩
    all_goals first | exact (decide_eq_true (by simp at *; omega)).symm | exact decide_eq_decide.2 (by simp at *; omega)
  rintro e L' s' ⟨rfl, rfl, hs⟩
  refine Sm.weak _ hs ?_
  clear hs
  refine Sm.ofW ?_
  conv => whnf
  have hs0 := hl.zero
  refine Br.mk (fun hc => ?_) (fun hc => ?_)
  · conv => whnf
    have hc := of_decide_eq_true hc
    refine hp.storeW (vs := Dc.zero.cells) rfl (by repeat (first | exact Rm.here | apply Rm.there)) (by first | exact C2_same _ _ _ _ | exact C4_same _ _ _ _ _ _ _ _ | exact Dc_same _ _ | rfl) rfl rfl rfl ?_
    clear hp
    intro s hp _
    conv => whnf
    refine hp.loadA (l := Dc.zero.cells) (by repeat (first | exact Has.here | apply Has.there | (apply Has.swap; repeat (first | exact HasR.here | apply HasR.there)))) rfl (by rfl) rfl rfl ?_
    conv => whnf
    refine ⟨hp.fr, ?_⟩
    unfold makeF dmade
    split
    · rfl
    · rw [if_neg (by omega)]; rfl
  · conv => whnf
    have hc := of_decide_eq_false hc
    refine Sm.seqW ?_
    conv => whnf
    have hlt : Vd l < 10 ^ 30 := by omega
    have hlt2 : Vd l < w128 := Nat.lt_trans hlt (by decide)
    refine hp.call ((words2_spec hp.wf (hp.slR .here) hl.lt hll).mono fun r s' ⟨h1, h2⟩ => ⟨h1, h2.trans (if_pos hlt2)⟩) ?_
    clear hp
    rintro _ s rfl hp _
    conv => whnf
    refine hp.alloc (cs := C2 0 0) (e := 1) rfl rfl rfl rfl rfl ?_
    clear hp
    intro p8 s hp _
    conv => whnf
    refine hp.storeW (vs := C2 (Vd l % w64) (Vd l / w64)) rfl (by repeat (first | exact Rm.here | apply Rm.there)) (by first | exact C2_same _ _ _ _ | exact C4_same _ _ _ _ _ _ _ _ | exact Dc_same _ _ | rfl) rfl rfl rfl ?_
    clear hp
    intro s hp _
    conv => whnf
    refine Sm.seqW ?_
    conv => whnf
    have fin : ∀ s', Hp (fun _ => False) z [slA κ (.slice a l.length c) 1 l.length (natI l)] [blkA p6 p6 (Dc.cells ⟨neg && !decide (Vd l = 0), Vd l, sc⟩) 4] s' → K0 z s' ∧ Value.tuple #[(Dc.mk (neg && !decide (Vd l = 0)) (Vd l) sc).val, .int .i64 0] = makeF neg (Vd l) sc := fun s' hp => by
      refine ⟨hp.fr, ?_⟩
      unfold makeF dmade
      rw [if_neg (by omega), if_pos hlt]
      rfl
    cases neg with
    | false =>
      repeat' (first | (refine Br.yes (by first | with_reducible rfl | with_reducible assumption) ?_; conv => whnf) | (refine Br.no (by first | with_reducible rfl | with_reducible assumption) ?_; conv => whnf) | (refine Br.mk (fun hq => ?_) (fun hq => ?_) <;> conv => whnf))
      refine hp.loadA (l := C2 (Vd l % w64) (Vd l / w64)) (by repeat (first | exact Has.here | apply Has.there | (apply Has.swap; repeat (first | exact HasR.here | apply HasR.there)))) rfl (by rfl) rfl rfl ?_
      conv => whnf
      refine hp.storeW (vs := Dc.cells ⟨false, Vd l, sc⟩) rfl (by repeat (first | exact Rm.here | apply Rm.there)) (by first | exact C2_same _ _ _ _ | exact C4_same _ _ _ _ _ _ _ _ | exact Dc_same _ _ | rfl) rfl rfl rfl ?_
      clear hp
      intro s hp _
      conv => whnf
      refine Sm.ofW ?_
      conv => whnf
      refine hp.loadA (l := Dc.cells ⟨false, Vd l, sc⟩) (by repeat (first | exact Has.here | apply Has.there | (apply Has.swap; repeat (first | exact HasR.here | apply HasR.there)))) rfl (by rfl) rfl rfl ?_
      conv => whnf
      exact ⟨fin _ (hp.pik (by repeat (first | exact Pik.nil | exact Pik.refl _ | exact Rm.here | apply Rm.there | apply Pik.cons | apply Pik.skip)))⟩
    | true =>
      have e : decide ((l.length : Int) > 0) = !decide (Vd l = 0) := by
        by_cases h : Vd l = 0
        · rw [decide_eq_true h]; exact decide_eq_false (by omega)
        · rw [decide_eq_false h]; exact decide_eq_true (by omega)
      repeat' (first | (refine Br.yes (by first | with_reducible rfl | with_reducible assumption) ?_; conv => whnf) | (refine Br.no (by first | with_reducible rfl | with_reducible assumption) ?_; conv => whnf) | (refine Br.mk (fun hq => ?_) (fun hq => ?_) <;> conv => whnf))
      all_goals refine hp.loadA (l := C2 (Vd l % w64) (Vd l / w64)) (by repeat (first | exact Has.here | apply Has.there | (apply Has.swap; repeat (first | exact HasR.here | apply HasR.there)))) rfl (by rfl) rfl rfl ?_
      all_goals conv => whnf
      all_goals refine hp.storeW (vs := Dc.cells ⟨!decide (Vd l = 0), Vd l, sc⟩) (congrArg (fun x => [Value.bool x, .int .u64 ((Vd l % w64 : Nat) : Int), .int .u64 ((Vd l / w64 : Nat) : Int), Value.int .i64 sc]) e) (by repeat (first | exact Rm.here | apply Rm.there)) (by rfl) rfl rfl rfl ?_
      all_goals
        clear hp
        intro s hp _
        conv => whnf
        refine Sm.ofW ?_
        conv => whnf
        refine hp.loadA (l := Dc.cells ⟨!decide (Vd l = 0), Vd l, sc⟩) (by repeat (first | exact Has.here | apply Has.there | (apply Has.swap; repeat (first | exact HasR.here | apply HasR.there)))) rfl (by rfl) rfl rfl ?_
        conv => whnf
        exact ⟨fin _ (hp.pik (by repeat (first | exact Pik.nil | exact Pik.refl _ | exact Rm.here | apply Rm.there | apply Pik.cons | apply Pik.skip)))⟩
theorem rof_spec {z : St} (wf : WF z) {n : Int} (hn : inR n) (sc : Int) :
    Cw Tryz.prog 26 [.int .i64 n, .int .i64 sc] z fun r s' => K0 z s' ∧ r = (ofD n sc).val := by
  have hp : Hp (fun _ => False) z [] [] z := Hp.start _ wf _ (by simp)
  obtain ⟨n1, n2⟩ := hn
  have habs : n.natAbs < w64 := by simp only [w64]; omega
  refine Cw.enterS Tryz.func26 rfl rfl ?_
  refine Sm.seqW ?_
  conv => whnf
  refine hp.alloc (cs := Dc.zero.cells) (e := 4) rfl rfl rfl rfl rfl ?_
  clear hp
  intro p4 s hp _
  conv => whnf
  refine Sm.seqW ?_
  conv => whnf
  refine Sm.seqW ?_
  conv => whnf
  refine Sm.live [1, 4, 5, 6] ?_
  conv => whnf
  refine Sm.seqC (fun e L' s' => e = .normal ∧ s' = s ∧ Sub [(1, .int .i64 sc), (4, .pointer (some ⟨p4, 0, none⟩)), (5, .bool (decide (n < 0))), (6, .int .u64 ((n.natAbs : Nat) : Int))] L') ?_ ?_
  · conv => whnf
    refine Br.mk (fun hc => ?_) (fun hc => ?_)
    · have hc := of_decide_eq_true hc
      conv => whnf
      have e : IntKind.u64.wrap (0 - IntKind.u64.wrap n) = ((n.natAbs : Nat) : Int) := by rw [wrap_u64i, wrap_u64i]; omega
      exact ⟨rfl, rfl, subK_ok ⟨rfl, rfl, rfl, congrArg (fun x => some (Value.int .u64 x)) e, trivial⟩⟩
    · have hc := of_decide_eq_false hc
      conv => whnf
      have e : IntKind.u64.wrap n = ((n.natAbs : Nat) : Int) := by rw [wrap_u64i]; omega
      exact ⟨rfl, rfl, subK_ok ⟨rfl, rfl, rfl, congrArg (fun x => some (Value.int .u64 x)) e, trivial⟩⟩
  rintro e L' s' ⟨rfl, rfl, hs⟩
  refine Sm.weak _ hs ?_
  clear hs
  refine Sm.seqW ?_
  conv => whnf
  refine hp.callO (word_spec hp.wf habs) ?_
  clear hp
  intro v1 κ1 s hp _
  conv => whnf
  refine (within_spec _ sc 0 9).mono ?_
  rintro _ s1 ⟨h1, rfl⟩
  obtain rfl := h1.symm
  conv => whnf
  refine hp.call (make_spec hp.wf (decide (n < 0)) (l := dg n.natAbs) (hp.slF (by repeat (first | exact Rm.here | apply Rm.there))) (dg_dl _) (Nat.le_trans (dg_len 20 _ (by simp only [w64] at habs; omega)) (by decide)) (max 0 (min 9 sc))) ?_
  clear hp
  rintro _ s rfl hp _
  have e : makeF (decide (n < 0)) (Vd (dg n.natAbs)) (max 0 (min 9 sc)) = okD (ofD n sc) := by
    unfold makeF dmade ofD
    rw [Vd_dg, if_neg (by omega), if_pos (Nat.lt_trans habs (by decide))]
    have e1 : (decide (n < 0) && !decide (n.natAbs = 0)) = decide (n < 0) := by
      by_cases h : n < 0
      · rw [decide_eq_true h, decide_eq_false (show ¬ n.natAbs = 0 by omega)]; rfl
      · rw [decide_eq_false h]; rfl
    have e2 : max 0 (min 9 sc) = max 0 (min sc 9) := by omega
    rw [e1, e2]
  rw [e]
  conv => whnf
  refine hp.alloc (cs := Dc.zero.cells) (e := 4) rfl rfl rfl rfl rfl ?_
  clear hp
  intro p7 s hp _
  conv => whnf
  refine hp.storeW (vs := (ofD n sc).cells) rfl (by repeat (first | exact Rm.here | apply Rm.there)) (by first | exact C2_same _ _ _ _ | exact C4_same _ _ _ _ _ _ _ _ | exact Dc_same _ _ | rfl) rfl rfl rfl ?_
  clear hp
  intro s hp _
  conv => whnf
  refine Sm.seqW ?_
  conv => whnf
  refine hp.loadA (l := (ofD n sc).cells) (by repeat (first | exact Has.here | apply Has.there | (apply Has.swap; repeat (first | exact HasR.here | apply HasR.there)))) rfl (by rfl) rfl rfl ?_
  conv => whnf
  refine hp.storeW (vs := (ofD n sc).cells) rfl (by repeat (first | exact Rm.here | apply Rm.there)) (by first | exact C2_same _ _ _ _ | exact C4_same _ _ _ _ _ _ _ _ | exact Dc_same _ _ | rfl) rfl rfl rfl ?_
  clear hp
  intro s hp _
  conv => whnf
  refine Sm.ofW ?_
  conv => whnf
  refine hp.loadA (l := (ofD n sc).cells) (by repeat (first | exact Has.here | apply Has.there | (apply Has.swap; repeat (first | exact HasR.here | apply HasR.there)))) rfl (by rfl) rfl rfl ?_
  conv => whnf
  exact ⟨hp.fr, rfl⟩
end Go.Ev
end

/- QuantSigns without a program. No condition. -/
noncomputable section
namespace Go.Ev
open Go.Proofs
variable [Lk]
set_option linter.unusedSectionVars false
set_option linter.unusedVariables false

theorem dmade_ok {neg : Bool} {n : Nat} {sc : Int} (h : n < 10 ^ 30) : dmade neg n sc = okD ⟨neg && !decide (n = 0), n, sc⟩ := if_pos h
theorem pow_le10 {k n : Nat} (h : k ≤ n) : 10 ^ k ≤ 10 ^ n := Nat.pow_le_pow_right (by decide) h
end Go.Ev
end

/- Decimals that are alike. No condition. -/
noncomputable section
namespace Go.Ev
open Go.Proofs
variable [Lk]
set_option linter.unusedSectionVars false
set_option linter.unusedVariables false
set_option maxRecDepth 100000

end Go.Ev
end

/- Lists of digits: products, without a program. No condition. -/
noncomputable section
namespace Go.Ev
open Go.Proofs
variable [Lk]
set_option linter.unusedSectionVars false
set_option linter.unusedVariables false
set_option maxRecDepth 100000

end Go.Ev
end

/- Lists of digits: MulNat walked. No condition. -/
noncomputable section
namespace Go.Ev
open Go.Proofs
variable [Lk]
set_option linter.unusedSectionVars false
set_option linter.unusedVariables false
set_option maxRecDepth 100000

end Go.Ev
end

/- Lists of digits: TenNat, Nat2, RightDec, goodMode. No condition. -/
noncomputable section
namespace Go.Ev
open Go.Proofs
variable [Lk]
set_option linter.unusedSectionVars false
set_option linter.unusedVariables false
set_option maxRecDepth 100000

end Go.Ev
end

/- Lists of digits: Rounded. No condition. -/
noncomputable section
namespace Go.Ev
open Go.Proofs
variable [Lk]
set_option linter.unusedSectionVars false
set_option linter.unusedVariables false
set_option maxRecDepth 100000

end Go.Ev
end

/- What the document's rounding and the program's have in common, without a program. No condition. -/
noncomputable section
namespace Go.Ev
open Go.Proofs
variable [Lk]
set_option linter.unusedSectionVars false
set_option linter.unusedVariables false

theorem p10 (k : Nat) : 0 < 10 ^ k := Nat.pow_pos (by decide)
end Go.Ev
end

/- Raw numbers as decimals (pyxhand.Dec). No condition. -/
noncomputable section
namespace Go.Ev
open Go.Proofs
variable [Lk]
set_option linter.unusedSectionVars false
set_option linter.unusedVariables false
set_option maxRecDepth 100000

theorem quo_int {P : Program} {t : TypeId} {cst : Bool} {n m : Int} (hm : 0 < m) (hn : inR n) : evBin P .quo t cst (.int .i64 n) (.int .i64 m) = some (.int .i64 (n.tdiv m)) ∧ inR (n.tdiv m) := by
  have hb : inR (n.tdiv m) := by
    obtain ⟨h1, h2⟩ := hn
    have h3 : (n.tdiv m).natAbs ≤ n.natAbs := by
      rw [Int.natAbs_tdiv]; exact Nat.div_le_self _ _
    have h4 := Int.natAbs_tdiv n m
    by_cases g : n < 0
    · have g1 : 0 ≤ (-n).tdiv m := Int.tdiv_nonneg (by omega) (by omega)
      rw [Int.neg_tdiv] at g1
      exact ⟨by omega, by omega⟩
    · have : 0 ≤ n.tdiv m := Int.tdiv_nonneg (by omega) (by omega)
      exact ⟨by omega, by omega⟩
  refine ⟨?_, hb⟩
  show (match decide (m = 0) with
    | true => none
    | false => some (Value.int .i64 (IntKind.i64.wrap (n.tdiv m)))) = _
  rw [decide_eq_false (by omega)]
  simp only
  rw [wi64 hb.1 hb.2]
end Go.Ev
end

/- Four words: dec.cmp, dec.halves. No condition. -/
noncomputable section
namespace Go.Ev
open Go.Proofs
variable [Lk]
set_option linter.unusedSectionVars false
set_option linter.unusedVariables false
set_option maxRecDepth 100000

theorem wd_split (a i : Nat) : a / 2 ^ (64 * i) = 2 ^ 64 * (a / 2 ^ (64 * (i + 1))) + wd a i := by
  unfold wd
  rw [show 64 * (i + 1) = 64 * i + 64 by omega, Nat.pow_add, ← Nat.div_div_eq_div_mul]
  exact (Nat.div_add_mod _ _).symm
theorem cmpI_word {a b i : Nat} (h : a / 2 ^ (64 * (i + 1)) = b / 2 ^ (64 * (i + 1))) : (wd a i < wd b i → cmpI a b = -1) ∧ (wd b i < wd a i → cmpI a b = 1) ∧ (wd a i = wd b i → a / 2 ^ (64 * i) = b / 2 ^ (64 * i)) := by
  have ha := wd_split a i
  have hb := wd_split b i
  rw [h] at ha
  have lt : ∀ x y : Nat, x / 2 ^ (64 * i) < y / 2 ^ (64 * i) → x < y := fun x y g => by
    rcases Nat.lt_or_ge x y with k | k
    · exact k
    · have := Nat.div_le_div_right (c := 2 ^ (64 * i)) k; omega
  refine ⟨fun g => ?_, fun g => ?_, fun g => by omega⟩
  · have := lt a b (by omega)
    unfold cmpI; rw [if_pos this]
  · have := lt b a (by omega)
    unfold cmpI; rw [if_neg (by omega), if_neg (by omega)]
theorem wd_get (Q i : Nat) (hi : i < 4) : (natU (ws Q))[i]? = some (.int .u64 ((wd Q i : Nat) : Int)) := by
  obtain ⟨h1, h2⟩ := ws_get Q i hi
  rw [natU_get _ _ h1, h2]
theorem dcmp_spec {z : St} (wf : WF z) {a b : Nat} (ha : a < w256) (hb : b < w256) :
    Cw Tryz.prog 67 [W4 a, W4 b] z fun r s' => K0 z s' ∧ r = .int .i64 (cmpI a b) := by
  have hp : Hp (fun _ => False) z [] [] z := Hp.start _ wf _ (by simp)
  have top : ∀ x, x < w256 → x / 2 ^ (64 * 4) = 0 := fun x h => Nat.div_eq_of_lt h
  refine Cw.enterS Tryz.func67 rfl rfl ?_
  refine Sm.seqW ?_
  conv => whnf
  refine hp.var (cs := natU (ws a)) (e := 1) (w4_ws ha) rfl ?_
  clear hp
  intro p1 s hp _
  conv => whnf
  refine hp.var (cs := natU (ws b)) (e := 1) (w4_ws hb) rfl ?_
  clear hp
  intro p2 s hp _
  conv => whnf
  refine Sm.live [2, 3] ?_
  conv => whnf
  refine Sm.seq ?_
  refine Sm.seqW ?_
  conv => whnf
  refine Sm.block ?_
  refine Sm.loop ?_
  refine Lp.ofS (α := Nat) (fun k => [(2, .pointer (some ⟨p1, 0, none⟩)), (3, .pointer (some ⟨p2, 0, none⟩)), (5, .int .i64 ((k : Int) - 1))])
    (fun k s' => k ≤ 4 ∧ a / 2 ^ (64 * k) = b / 2 ^ (64 * k) ∧ Hp (fun _ => False) z [] [blkA p2 p2 (natU (ws b)) 1, blkA p1 p1 (natU (ws a)) 1] s') (fun k => k) ?_ 4 (subK_ok (by refine ⟨rfl, rfl, rfl, trivial⟩)) ⟨Nat.le_refl _, by rw [top a ha, top b hb], hp.pik (by repeat (first | exact Pik.nil | exact Pik.refl _ | exact Rm.here | apply Rm.there | apply Pik.cons | apply Pik.skip))⟩
  clear hp
  rintro k s ⟨hk, hE, hp⟩
  cases k with
  | zero =>
    refine Sm.seq ?_
    refine Sm.seqW ?_
    conv => whnf
    refine Sm.ofW ?_
    conv => whnf
    refine Br.no (rfl) ?_
    conv => whnf
    refine Sm.seqW ?_
    conv => whnf
    refine Sm.ofW ?_
    conv => whnf
    refine ⟨hp.fr, congrArg (Value.int .i64) ?_⟩
    have : a = b := by simpa using hE
    rw [this]
    unfold cmpI
    simp
  | succ i =>
    obtain ⟨c1, c2, c3⟩ := cmpI_word hE
    have hi : i < 4 := by omega
    have hk0 : decide ((i : Int) ≥ 0) = true := decide_eq_true (by omega)
    refine Sm.weak [(2, .pointer (some ⟨p1, 0, none⟩)), (3, .pointer (some ⟨p2, 0, none⟩)), (5, .int .i64 (i : Int))] (subK_ok ⟨rfl, rfl, congrArg (fun x => some (Value.int .i64 x)) (show ((i + 1 : Nat) : Int) - 1 = (i : Int) by push_cast; omega), trivial⟩) ?_
    have ix : ∀ b : Nat, evIndexAddr Tryz.prog 131 (.pointer (some ⟨b, 0, none⟩)) (.int .i64 (i : Int)) = some (.pointer (some ⟨b, 0 + i, none⟩)) := fun b => ixA Tryz.underlying131 (by rfl) rfl .i64 hi
    have g1 : (natU (ws a))[0 + i]? = some (.int .u64 ((wd a i : Nat) : Int)) := by rw [Nat.zero_add]; exact wd_get a i hi
    have g2 : (natU (ws b))[0 + i]? = some (.int .u64 ((wd b i : Nat) : Int)) := by rw [Nat.zero_add]; exact wd_get b i hi
    refine Sm.seq ?_
    refine Sm.seqW ?_
    conv => whnf
    refine Sm.ofW ?_
    conv => whnf
    refine Br.yes (hk0) ?_
    conv => whnf
    refine Sm.seq ?_
    refine Sm.block ?_
    refine Sm.seqW ?_
    conv => whnf
    refine ⟨[0, 1, 3, 0, 8, 24, 63], by decide +kernel, by decide +kernel, ?_⟩
    conv => whnf
    refine Om.of _ (ix p1) ?_
    conv => whnf
    refine hp.load (by repeat (first | exact Has.here | apply Has.there | (apply Has.swap; repeat (first | exact HasR.here | apply HasR.there)))) g1 rfl rfl rfl ?_
    conv => whnf
    refine Om.of _ (ix p2) ?_
    conv => whnf
    refine hp.load (by repeat (first | exact Has.here | apply Has.there | (apply Has.swap; repeat (first | exact HasR.here | apply HasR.there)))) g2 rfl rfl rfl ?_
    conv => whnf
    refine Sm.ofW ?_
    conv => whnf
    by_cases h1 : wd a i = wd b i
    · refine Br.no (bne_eq_false_iff_eq.2 (congrArg Int.ofNat h1)) ?_
      conv => whnf
      refine Sm.ofW ?_
      conv => whnf
      have ei : IntKind.i64.wrap ((i : Int) - 1) = (i : Int) - 1 := wi64 (by omega) (by omega)
      exact ⟨i, Nat.lt_succ_self i, subK_ok (by refine ⟨rfl, rfl, congrArg (fun x => some (Value.int .i64 x)) ei, trivial⟩), by omega, c3 h1, hp⟩
    · refine Br.yes (bne_iff_ne.2 (fun h => h1 (Int.ofNat.inj h))) ?_
      conv => whnf
      refine ⟨[0, 1, 3, 0, 8, 24, 63], by decide +kernel, by decide +kernel, ?_⟩
      conv => whnf
      refine Om.of _ (ix p1) ?_
      conv => whnf
      refine hp.load (by repeat (first | exact Has.here | apply Has.there | (apply Has.swap; repeat (first | exact HasR.here | apply HasR.there)))) g1 rfl rfl rfl ?_
      conv => whnf
      refine Om.of _ (ix p2) ?_
      conv => whnf
      refine hp.load (by repeat (first | exact Has.here | apply Has.there | (apply Has.swap; repeat (first | exact HasR.here | apply HasR.there)))) g2 rfl rfl rfl ?_
      conv => whnf
      by_cases h2 : wd a i < wd b i
      · refine Br.yes (decide_eq_true (by omega)) ?_
        conv => whnf
        exact ⟨hp.fr, congrArg (Value.int .i64) (c1 h2).symm⟩
      · refine Br.no (decide_eq_false (by omega)) ?_
        conv => whnf
        exact ⟨hp.fr, congrArg (Value.int .i64) (c2 (by omega)).symm⟩
theorem dhalves_spec {z : St} (wf : WF z) {n : Nat} (hn : n < w256) :
    Cw Tryz.prog 115 [W4 n] z fun r s' => K0 z s' ∧ r = .tuple #[W2 (n % w128), W2 (n / w128)] := by
  have hp : Hp (fun _ => False) z [] [] z := Hp.start _ wf _ (by simp)
  have e1 : n % w128 % w64 = n % w64 ∧ n % w128 / w64 = n / w64 % w64 ∧ n / w128 / w64 = n / w192 := by simp only [w64, w128, w192]; omega
  refine Cw.enterS Tryz.func115 rfl rfl ?_
  refine Sm.seqW ?_
  conv => whnf
  refine hp.var (cs := C4 (n % w64) (n / w64 % w64) (n / w128 % w64) (n / w192)) (e := 1) rfl rfl ?_
  clear hp
  intro p1 s hp _
  conv => whnf
  refine hp.alloc (cs := C2 0 0) (e := 1) rfl rfl rfl rfl rfl ?_
  clear hp
  intro p2 s hp _
  conv => whnf
  refine hp.alloc (cs := C2 0 0) (e := 1) rfl rfl rfl rfl rfl ?_
  clear hp
  intro p3 s hp _
  conv => whnf
  refine Sm.live [1, 2, 3] ?_
  conv => whnf
  refine Sm.seqW ?_
  conv => whnf
  refine ⟨[0, 1, 0, 4, 15, 0, 32, 0, 128, 480, 31, 2047], by decide +kernel, by decide +kernel, ?_⟩
  conv => whnf
  refine Om.of _ (rfl) ?_
  conv => whnf
  refine hp.load (v := .int .u64 ((n % w64 : Nat) : Int)) (by repeat (first | exact Has.here | apply Has.there | (apply Has.swap; repeat (first | exact HasR.here | apply HasR.there)))) (by rfl) rfl rfl rfl ?_
  conv => whnf
  refine Om.of _ (rfl) ?_
  conv => whnf
  refine hp.load (v := .int .u64 ((n / w64 % w64 : Nat) : Int)) (by repeat (first | exact Has.here | apply Has.there | (apply Has.swap; repeat (first | exact HasR.here | apply HasR.there)))) (by rfl) rfl rfl rfl ?_
  conv => whnf
  refine Om.of _ (rfl) ?_
  conv => whnf
  refine hp.load (v := .int .u64 ((n / w128 % w64 : Nat) : Int)) (by repeat (first | exact Has.here | apply Has.there | (apply Has.swap; repeat (first | exact HasR.here | apply HasR.there)))) (by rfl) rfl rfl rfl ?_
  conv => whnf
  refine Om.of _ (rfl) ?_
  conv => whnf
  refine hp.load (v := .int .u64 ((n / w192 : Nat) : Int)) (by repeat (first | exact Has.here | apply Has.there | (apply Has.swap; repeat (first | exact HasR.here | apply HasR.there)))) (by rfl) rfl rfl rfl ?_
  conv => whnf
  have hp0 := hp
  refine hp.rst.storeW (vs := C2 (n % w64) (n / w64 % w64)) rfl (by repeat (first | exact Rm.here | apply Rm.there)) (by rfl) rfl rfl rfl ?_
  intro s1 h1 l1
  conv => whnf
  refine hp.dkW h1 l1 ?_
  clear hp h1 l1
  intro s hp
  conv => whnf
  refine ⟨hp0.sa hp (by repeat (first | exact Has.here | apply Has.there | (apply Has.swap; repeat (first | exact HasR.here | apply HasR.there)))) (by repeat (first | exact Has.here | apply Has.there | (apply Has.swap; repeat (first | exact HasR.here | apply HasR.there)))), ?_⟩
  conv => whnf
  refine ⟨hp0.sa hp (by repeat (first | exact Has.here | apply Has.there | (apply Has.swap; repeat (first | exact HasR.here | apply HasR.there)))) (by repeat (first | exact Has.here | apply Has.there | (apply Has.swap; repeat (first | exact HasR.here | apply HasR.there)))), ?_⟩
  conv => whnf
  clear hp0
  refine hp.rst.storeW (vs := C2 (n / w128 % w64) (n / w192)) rfl (by repeat (first | exact Rm.here | apply Rm.there)) (by first | exact C2_same _ _ _ _ | exact C4_same _ _ _ _ _ _ _ _ | exact Dc_same _ _ | rfl) rfl rfl rfl ?_
  intro s1 h1 l1
  conv => whnf
  refine hp.dkW h1 l1 ?_
  clear hp h1 l1
  intro s hp
  conv => whnf
  refine Sm.live [2, 3] ?_
  conv => whnf
  refine Sm.ofW ?_
  conv => whnf
  refine hp.loadA (l := C2 (n % w64) (n / w64 % w64)) (by repeat (first | exact Has.here | apply Has.there | (apply Has.swap; repeat (first | exact HasR.here | apply HasR.there)))) rfl (by rfl) rfl rfl ?_
  conv => whnf
  refine hp.loadA (l := C2 (n / w128 % w64) (n / w192)) (by repeat (first | exact Has.here | apply Has.there | (apply Has.swap; repeat (first | exact HasR.here | apply HasR.there)))) rfl (by rfl) rfl rfl ?_
  conv => whnf
  refine ⟨hp.fr, ?_⟩
  unfold W2 A2
  rw [e1.1, e1.2.1, e1.2.2]
  rfl
end Go.Ev
end
