/- Several texts in one: what the law's text leans on, one behind the other. No condition but those that each theorem names. -/
import Derived.Test.YtcjonnndpkohoaaDoorS5
import Derived.Test.YtcjonnndpkohoaaDoorChecked
/- Numbers of two words: sums, differences. No condition. -/
noncomputable section
namespace Go.Ev
open Go.Proofs
set_option linter.unusedVariables false
set_option maxRecDepth 100000

def inR (n : Int) : Prop := -9223372036854775808 ≤ n ∧ n < 9223372036854775808
theorem pick_spec (s : St) {n m : Int} (hn : inR n) (hm : 0 < m) (hm2 : m < 9223372036854775808) :
    Cw Tryd.prog 15 [.int .i64 n, .int .i64 m] s fun r s' => s' = s ∧ r = .int .i64 (n % m) := by
  refine Cw.enter Tryd.func15 rfl rfl ?_
  conv => whnf
  have e1 : evBin Tryd.prog .rem 3 (isConst (.tmp 5) || isConst (.tmp 6)) (.int .i64 n) (.int .i64 m) = some (.int .i64 (n.tmod m)) := by
    show (match decide (m = 0) with
      | true => none
      | false => some (Value.int .i64 (n.tmod m))) = _
    rw [decide_eq_false (by omega)]
  refine Om.of _ e1 ?_
  conv => whnf
  have ht := Int.tmod_eq_emod (a := n) (b := m)
  have h1 := Int.emod_nonneg n (show m ≠ 0 by omega)
  have h2 := Int.emod_lt_of_pos n hm
  have habs : (m.natAbs : Int) = m := by omega
  have hcases : (n.tmod m = n % m) ∨ (n.tmod m = n % m - m ∧ n.tmod m < 0) := by
    rw [ht]
    split
    · left; omega
    · right; omega
  refine ⟨fun hc => ?_, fun hc => ?_⟩
  · have hc := of_decide_eq_true hc
    conv => whnf
    refine ⟨⟨rfl, ?_⟩⟩
    have : IntKind.i64.wrap (n.tmod m + m) = n % m := by
      rw [wrap_i64 (by omega) (by omega)]; omega
    exact congrArg (Value.int .i64) this
  · have hc := of_decide_eq_false hc
    conv => whnf
    refine ⟨⟨rfl, ?_⟩⟩
    have : n.tmod m = n % m := by omega
    exact congrArg (Value.int .i64) this
abbrev w64 : Nat := 18446744073709551616
theorem bit63 {n : Nat} (h : n < w64) : n.testBit 63 = decide (9223372036854775808 ≤ n) := by
  rw [Nat.testBit_eq_decide_div_mod_eq]
  apply decide_eq_decide.2
  have : (2 : Nat) ^ 63 = 9223372036854775808 := by decide
  rw [this]
  simp only [w64] at h
  omega
theorem shr63 {n : Nat} (h : n < w64) : n / 9223372036854775808 = if n.testBit 63 = true then 1 else 0 := by
  rw [bit63 h]
  simp only [w64] at h
  split <;> rename_i g <;> simp at g <;> omega
theorem andNot_u64 {a b : Nat} (ha : a < w64) (hb : b < w64) :
    ∃ x : Nat, x < w64 ∧ IntKind.u64.wrap ((BitVec.ofInt IntKind.u64.bits (a : Int) &&& ~~~ BitVec.ofInt IntKind.u64.bits (b : Int)).toNat : Int) = (x : Int) ∧ x.testBit 63 = (a.testBit 63 && !b.testBit 63) := by
  have e : IntKind.u64.bits = 64 := rfl
  rw [e, bv_nat, bv_nat]
  refine ⟨(BitVec.ofNat 64 a &&& ~~~ BitVec.ofNat 64 b).toNat, (BitVec.ofNat 64 a &&& ~~~ BitVec.ofNat 64 b).isLt, ?_, ?_⟩
  · rw [wrap_u64, Nat.mod_eq_of_lt (BitVec.ofNat 64 a &&& ~~~ BitVec.ofNat 64 b).isLt]
  · rw [BitVec.toNat_and, BitVec.toNat_not, BitVec.toNat_ofNat, BitVec.toNat_ofNat, Nat.mod_eq_of_lt (show a < 2 ^ 64 from ha), Nat.mod_eq_of_lt (show b < 2 ^ 64 from hb), Nat.testBit_and]
    have h1 : 2 ^ 64 - 1 - b < w64 := by simp only [w64] at *; omega
    rw [bit63 h1, bit63 hb]
    congr 1
    simp only [w64] at *
    by_cases h : 9223372036854775808 ≤ b <;> simp [h] <;> omega
theorem and_bit {a b : Nat} : (a &&& b).testBit 63 = (a.testBit 63 && b.testBit 63) := Nat.testBit_and ..
theorem or_bit {a b : Nat} : (a ||| b).testBit 63 = (a.testBit 63 || b.testBit 63) := Nat.testBit_or ..
theorem and_lt64 {a b : Nat} (ha : a < w64) : a &&& b < w64 := Nat.lt_of_le_of_lt Nat.and_le_left ha
theorem or_lt64 {a b : Nat} (ha : a < w64) (hb : b < w64) : a ||| b < w64 := Nat.or_lt_two_pow (n := 64) ha hb
theorem fdiv63 (n : Nat) : ((n : Int)).fdiv (2 ^ 63) = ((n / 9223372036854775808 : Nat) : Int) := by
  rw [Int.fdiv_eq_ediv_of_nonneg _ (by decide)]; exact (Int.natCast_ediv n 9223372036854775808).symm
theorem carry_eq {a b c : Nat} (ha : a < w64) (hb : b < w64) (hc : c ≤ 1) :
    (IntKind.u64.wrap ((BitVec.ofInt IntKind.u64.bits (IntKind.u64.wrap ((BitVec.ofInt IntKind.u64.bits (a : Int) &&& BitVec.ofInt IntKind.u64.bits (b : Int)).toNat : Int)) |||
      BitVec.ofInt IntKind.u64.bits (IntKind.u64.wrap ((BitVec.ofInt IntKind.u64.bits (IntKind.u64.wrap ((BitVec.ofInt IntKind.u64.bits (a : Int) ||| BitVec.ofInt IntKind.u64.bits (b : Int)).toNat : Int)) &&& ~~~ BitVec.ofInt IntKind.u64.bits (((a + b + c) % w64 : Nat) : Int)).toNat : Int))).toNat : Int)).fdiv (2 ^ 63) = (((a + b + c) / w64 : Nat) : Int) := by
  have hs : (a + b + c) % w64 < w64 := Nat.mod_lt _ (by decide)
  rw [and_u64 ha hb, or_u64 ha hb]
  obtain ⟨x, x1, x2, x3⟩ := andNot_u64 (or_lt64 ha hb) hs
  rw [x2, or_u64 (and_lt64 ha) x1, fdiv63, shr63 (or_lt64 (and_lt64 ha) x1), or_bit, and_bit, x3, or_bit, bit63 ha, bit63 hb, bit63 hs]
  congr 1
  simp only [w64] at *
  by_cases h1 : 9223372036854775808 ≤ a <;> by_cases h2 : 9223372036854775808 ≤ b <;> by_cases h3 : 9223372036854775808 ≤ (a + b + c) % 18446744073709551616 <;> simp [h1, h2, h3] <;> omega
theorem borrow_eq {a b c : Nat} (ha : a < w64) (hb : b < w64) (hc : c ≤ 1) :
    (IntKind.u64.wrap ((BitVec.ofInt IntKind.u64.bits (IntKind.u64.wrap ((BitVec.ofInt IntKind.u64.bits (IntKind.u64.wrap ((BitVec.ofInt IntKind.u64.bits (18446744073709551615 : Int) ^^^ BitVec.ofInt IntKind.u64.bits (a : Int)).toNat : Int)) &&& BitVec.ofInt IntKind.u64.bits (b : Int)).toNat : Int)) |||
      BitVec.ofInt IntKind.u64.bits (IntKind.u64.wrap ((BitVec.ofInt IntKind.u64.bits (IntKind.u64.wrap ((BitVec.ofInt IntKind.u64.bits (IntKind.u64.wrap ((BitVec.ofInt IntKind.u64.bits (18446744073709551615 : Int) ^^^ BitVec.ofInt IntKind.u64.bits (a : Int)).toNat : Int)) ||| BitVec.ofInt IntKind.u64.bits (b : Int)).toNat : Int)) &&& BitVec.ofInt IntKind.u64.bits (((a + w64 + w64 - b - c) % w64 : Nat) : Int)).toNat : Int))).toNat : Int)).fdiv (2 ^ 63) = ((if a < b + c then 1 else 0 : Nat) : Int) := by
  have hs : (a + w64 + w64 - b - c) % w64 < w64 := Nat.mod_lt _ (by decide)
  have hx : IntKind.u64.wrap ((BitVec.ofInt IntKind.u64.bits (18446744073709551615 : Int) ^^^ BitVec.ofInt IntKind.u64.bits (a : Int)).toNat : Int) = ((18446744073709551615 - a : Nat) : Int) := by
    have := xor_u64 (a := 18446744073709551615) (b := a) (by decide) ha
    rw [Nat.xor_comm, xor_ones ha] at this
    exact this
  have hn : 18446744073709551615 - a < w64 := by simp only [w64]; omega
  rw [hx, and_u64 hn hb, or_u64 hn hb, and_u64 (or_lt64 hn hb) hs, or_u64 (and_lt64 hn) (and_lt64 (or_lt64 hn hb)), fdiv63, shr63 (or_lt64 (and_lt64 hn) (and_lt64 (or_lt64 hn hb))), or_bit, and_bit, and_bit, or_bit, bit63 hn, bit63 hb, bit63 hs]
  congr 1
  simp only [w64] at *
  by_cases h1 : 9223372036854775808 ≤ 18446744073709551615 - a <;> by_cases h2 : 9223372036854775808 ≤ b <;> by_cases h3 : 9223372036854775808 ≤ (a + 18446744073709551616 + 18446744073709551616 - b - c) % 18446744073709551616 <;> simp [h1, h2, h3] <;> omega
theorem lplus_spec (s : St) {a b c : Nat} (ha : a < w64) (hb : b < w64) (hc : c ≤ 1) :
    Cw Tryd.prog 80 [.int .u64 (a : Int), .int .u64 (b : Int), .int .u64 (c : Int)] s fun r s' => s' = s ∧ r = .tuple #[.int .u64 (((a + b + c) % w64 : Nat) : Int), .int .u64 (((a + b + c) / w64 : Nat) : Int)] := by
  have e1 : IntKind.u64.wrap (IntKind.u64.wrap ((a : Int) + (b : Int)) + (c : Int)) = (((a + b + c) % w64 : Nat) : Int) := by
    rw [wrap_u64i, wrap_u64i]; simp only [w64] at *; omega
  have e2 := carry_eq ha hb hc
  refine Cw.enter Tryd.func80 rfl rfl ?_
  conv => whnf
  rw [e1]
  refine Om.of _ (congrArg (fun x => some (Value.int .u64 x)) e2) ?_
  conv => whnf
  exact ⟨rfl, rfl⟩
theorem lless_spec (s : St) {a b c : Nat} (ha : a < w64) (hb : b < w64) (hc : c ≤ 1) :
    Cw Tryd.prog 75 [.int .u64 (a : Int), .int .u64 (b : Int), .int .u64 (c : Int)] s fun r s' => s' = s ∧ r = .tuple #[.int .u64 (((a + w64 + w64 - b - c) % w64 : Nat) : Int), .int .u64 ((if a < b + c then 1 else 0 : Nat) : Int)] := by
  have e1 : IntKind.u64.wrap (IntKind.u64.wrap ((a : Int) - (b : Int)) - (c : Int)) = (((a + w64 + w64 - b - c) % w64 : Nat) : Int) := by
    rw [wrap_u64i, wrap_u64i]; simp only [w64] at *; omega
  have e2 := borrow_eq ha hb hc
  refine Cw.enter Tryd.func75 rfl rfl ?_
  conv => whnf
  rw [e1]
  refine Om.of _ (congrArg (fun x => some (Value.int .u64 x)) e2) ?_
  conv => whnf
  exact ⟨rfl, rfl⟩
/-- Two words. -/
def A2 (a b : Nat) : Value := .agg #[.int .u64 (a : Int), .int .u64 (b : Int)]
def C2 (a b : Nat) : List Value := [.int .u64 (a : Int), .int .u64 (b : Int)]
/-- A number, as two words. -/
abbrev w128 : Nat := 340282366920938463463374607431768211456
def W2 (n : Nat) : Value := A2 (n % w64) (n / w64)
theorem w2_lt {n : Nat} (h : n < w128) : n % w64 < w64 ∧ n / w64 < w64 := by simp only [w64, w128] at *; omega
theorem lAdd_spec {z : St} (wf : WF z) {a b : Nat} (ha : a < w128) (hb : b < w128) :
    Cw Tryd.prog 52 [W2 a, W2 b] z fun r s' => K0 z s' ∧ r = if a + b < w128 then .tuple #[W2 (a + b), .bool true] else .tuple #[W2 0, .bool false] := by
  have hp : Hp (fun _ => False) z [] [] z := Hp.start _ wf _ (by simp)
  obtain ⟨a1, a2⟩ := w2_lt ha
  obtain ⟨b1, b2⟩ := w2_lt hb
  have hsum : (a % w64 + b % w64 + 0) % w64 = (a + b) % w64 ∧ (a / w64 + b / w64 + (a % w64 + b % w64 + 0) / w64) = (a + b) / w64 ∧ (a % w64 + b % w64 + 0) / w64 ≤ 1 := by simp only [w64, w128] at *; omega
  unfold W2
  generalize a % w64 = al at *
  generalize a / w64 = ah at *
  generalize b % w64 = bl at *
  generalize b / w64 = bh at *
  refine Cw.enterS Tryd.func52 rfl rfl ?_
  refine Sm.seqW ?_
  conv => whnf
  refine hp.var (cs := C2 al ah) (e := 1) rfl rfl ?_
  clear hp
  intro p1 s hp _
  conv => whnf
  refine hp.var (cs := C2 bl bh) (e := 1) rfl rfl ?_
  clear hp
  intro p2 s hp _
  conv => whnf
  refine hp.alloc (cs := C2 0 0) (e := 1) rfl rfl rfl rfl rfl ?_
  clear hp
  intro p3 s hp _
  conv => whnf
  refine Sm.live [2, 3, 4, 5] ?_
  conv => whnf
  refine Sm.seqW ?_
  conv => whnf
  (refine Om.of _ rfl ?_; conv => whnf)
  (refine hp.load (by repeat (first | exact Has.here | apply Has.there | (apply Has.swap; repeat (first | exact HasR.here | apply HasR.there)))) (by rfl) rfl rfl rfl ?_; conv => whnf)
  (refine Om.of _ rfl ?_; conv => whnf)
  (refine hp.load (by repeat (first | exact Has.here | apply Has.there | (apply Has.swap; repeat (first | exact HasR.here | apply HasR.there)))) (by rfl) rfl rfl rfl ?_; conv => whnf)
  refine (lplus_spec _ (c := 0) a1 b1 (by decide)).mono ?_
  rintro _ _ ⟨rfl, rfl⟩
  conv => whnf
  refine Sm.live [2, 3, 4, 5, 6, 7] ?_
  conv => whnf
  refine Sm.seqW ?_
  conv => whnf
  (refine Om.of _ rfl ?_; conv => whnf)
  (refine hp.load (by repeat (first | exact Has.here | apply Has.there | (apply Has.swap; repeat (first | exact HasR.here | apply HasR.there)))) (by rfl) rfl rfl rfl ?_; conv => whnf)
  (refine Om.of _ rfl ?_; conv => whnf)
  (refine hp.load (by repeat (first | exact Has.here | apply Has.there | (apply Has.swap; repeat (first | exact HasR.here | apply HasR.there)))) (by rfl) rfl rfl rfl ?_; conv => whnf)
  refine (lplus_spec _ a2 b2 hsum.2.2).mono ?_
  rintro _ _ ⟨rfl, rfl⟩
  conv => whnf
  rw [hsum.1, hsum.2.1]
  have hq : ((a + b) / w64 / w64 = 0 ↔ a + b < w128) ∧ (a + b < w128 → (a + b) / w64 % w64 = (a + b) / w64) := by simp only [w64, w128] at *; omega
  refine Sm.live [4, 5, 6, 8, 9] ?_
  conv => whnf
  refine Sm.seq ?_
  refine Sm.seqW ?_
  conv => whnf
  refine Sm.ofW ?_
  conv => whnf
  by_cases hlt : a + b < w128
  · rw [if_pos hlt, hq.2 hlt]
    refine Br.no (decide_eq_false (by have := hq.1.2 hlt; omega)) ?_
    conv => whnf
    refine Sm.seqW ?_
    conv => whnf
    refine hp.storeW (vs := C2 ((a + b) % w64) ((a + b) / w64)) rfl (by repeat (first | exact Rm.here | apply Rm.there)) (by rfl) rfl rfl rfl ?_
    clear hp
    intro s hp _
    conv => whnf
    refine Sm.ofW ?_
    conv => whnf
    refine hp.loadA (l := C2 ((a + b) % w64) ((a + b) / w64)) (by repeat (first | exact Has.here | apply Has.there | (apply Has.swap; repeat (first | exact HasR.here | apply HasR.there)))) rfl (by rfl) rfl rfl ?_
    conv => whnf
    exact ⟨hp.fr, rfl⟩
  · rw [if_neg hlt]
    refine Br.yes (decide_eq_true (by
      have h1 : 0 < (a + b) / w64 / w64 := Nat.pos_of_ne_zero fun h => hlt (hq.1.1 h)
      exact Int.natCast_pos.2 h1)) ?_
    conv => whnf
    refine hp.storeW (vs := C2 0 0) rfl (by repeat (first | exact Rm.here | apply Rm.there)) (by rfl) rfl rfl rfl ?_
    clear hp
    intro s hp _
    conv => whnf
    refine hp.loadA (l := C2 0 0) (by repeat (first | exact Has.here | apply Has.there | (apply Has.swap; repeat (first | exact HasR.here | apply HasR.there)))) rfl (by rfl) rfl rfl ?_
    conv => whnf
    exact ⟨hp.fr, rfl⟩
end Go.Ev
end

/- Numbers of two words, further: Sub, Of, Short, Wide, Cmp. No condition. -/
noncomputable section
namespace Go.Ev
open Go.Proofs
set_option linter.unusedVariables false
set_option maxRecDepth 100000

def C4 (a b c d : Nat) : List Value := [.int .u64 (a : Int), .int .u64 (b : Int), .int .u64 (c : Int), .int .u64 (d : Int)]
def A4 (a b c d : Nat) : Value := .agg #[.int .u64 (a : Int), .int .u64 (b : Int), .int .u64 (c : Int), .int .u64 (d : Int)]
abbrev w192 : Nat := 6277101735386680763835789423207666416102355444464034512896
abbrev w256 : Nat := 115792089237316195423570985008687907853269984665640564039457584007913129639936
/-- A number, as four words. -/
def W4 (n : Nat) : Value := A4 (n % w64) (n / w64 % w64) (n / w128 % w64) (n / w192)
theorem w4_short {n : Nat} (h : n < w128) : W4 n = A4 (n % w64) (n / w64) 0 0 := by
  unfold W4
  have h1 : n / w64 % w64 = n / w64 := by simp only [w64, w128] at *; omega
  have h2 : n / w128 % w64 = 0 := by simp only [w64, w128] at *; omega
  have h3 : n / w192 = 0 := by simp only [w192, w128] at *; omega
  rw [h1, h2, h3]
theorem lOf_spec {z : St} (wf : WF z) {a : Nat} (ha : a < w64) :
    Cw Tryd.prog 46 [.int .u64 (a : Int)] z fun r s' => K0 z s' ∧ r = W2 a := by
  have hp : Hp (fun _ => False) z [] [] z := Hp.start _ wf _ (by simp)
  have h1 : a % w64 = a := Nat.mod_eq_of_lt ha
  have h2 : a / w64 = 0 := Nat.div_eq_of_lt ha
  unfold W2
  rw [h1, h2]
  refine Cw.enterS Tryd.func46 rfl rfl ?_
  refine Sm.seqW ?_
  conv => whnf
  refine hp.alloc (cs := C2 0 0) (e := 1) rfl rfl rfl rfl rfl ?_
  clear hp
  intro p3 s hp _
  conv => whnf
  refine Sm.seqW ?_
  conv => whnf
  refine hp.storeW (vs := C2 a 0) rfl (by repeat (first | exact Rm.here | apply Rm.there)) (by rfl) rfl rfl rfl ?_
  clear hp
  intro s hp _
  conv => whnf
  refine Sm.ofW ?_
  conv => whnf
  refine hp.loadA (l := C2 a 0) (by repeat (first | exact Has.here | apply Has.there | (apply Has.swap; repeat (first | exact HasR.here | apply HasR.there)))) rfl (by rfl) rfl rfl ?_
  conv => whnf
  exact ⟨hp.fr, rfl⟩
def shortR (n : Nat) : Value := if n < w128 then .tuple #[W2 n, .bool true] else .tuple #[W2 0, .bool false]
theorem lShort_spec {z : St} (wf : WF z) {n : Nat} (hn : n < w256) :
    Cw Tryd.prog 50 [W4 n] z fun r s' => K0 z s' ∧ r = shortR n := by
  have hp : Hp (fun _ => False) z [] [] z := Hp.start _ wf _ (by simp)
  have hlt : n < w128 ↔ (n / w128 % w64 = 0 ∧ n / w192 = 0) := by simp only [w64, w128, w192, w256] at *; omega
  have h1 : n < w128 → n / w64 % w64 = n / w64 := fun h => by simp only [w64, w128] at *; omega
  unfold W4 shortR
  generalize hc : n / w128 % w64 = c at hlt
  generalize hd : n / w192 = d at hlt
  refine Cw.enterS Tryd.func50 rfl rfl ?_
  refine Sm.seqW ?_
  conv => whnf
  refine hp.var (cs := C4 (n % w64) (n / w64 % w64) c d) (e := 1) rfl rfl ?_
  clear hp
  intro p1 s hp _
  conv => whnf
  refine hp.alloc (cs := C2 0 0) (e := 1) rfl rfl rfl rfl rfl ?_
  clear hp
  intro p3 s hp _
  conv => whnf
  refine Sm.live [1, 2, 3] ?_
  conv => whnf
  refine Sm.seq ?_
  refine Sm.seqW ?_
  conv => whnf
  (refine Om.of _ rfl ?_; conv => whnf)
  (refine hp.load (by repeat (first | exact Has.here | apply Has.there | (apply Has.swap; repeat (first | exact HasR.here | apply HasR.there)))) (by rfl) rfl rfl rfl ?_; conv => whnf)
  have no : ∀ x : Nat, x ≠ 0 → ((x : Int) != 0) = true := fun x h => bne_iff_ne.2 (by omega)
  have ye : ∀ x : Nat, x = 0 → ((x : Int) != 0) = false := fun x h => by subst h; rfl
  by_cases h : n < w128
  · obtain ⟨h2, h3⟩ := hlt.1 h
    rw [if_pos h]
    rw [h1 h] at hp
    refine Br.no (ye _ h2) ?_
    conv => whnf
    (refine Om.of _ rfl ?_; conv => whnf)
    refine Br.no (ye _ h2) ?_
    conv => whnf
    (refine hp.load (by repeat (first | exact Has.here | apply Has.there | (apply Has.swap; repeat (first | exact HasR.here | apply HasR.there)))) (by rfl) rfl rfl rfl ?_; conv => whnf)
    refine Br.no (ye _ h2) ?_
    conv => whnf
    refine Br.no (ye _ h2) ?_
    conv => whnf
    refine Sm.ofW ?_
    conv => whnf
    refine Br.no (ye _ h3) ?_
    conv => whnf
    refine Sm.seqW ?_
    conv => whnf
    (refine Om.of _ rfl ?_; conv => whnf)
    (refine hp.load (by repeat (first | exact Has.here | apply Has.there | (apply Has.swap; repeat (first | exact HasR.here | apply HasR.there)))) (by rfl) rfl rfl rfl ?_; conv => whnf)
    (refine Om.of _ rfl ?_; conv => whnf)
    (refine hp.load (by repeat (first | exact Has.here | apply Has.there | (apply Has.swap; repeat (first | exact HasR.here | apply HasR.there)))) (by rfl) rfl rfl rfl ?_; conv => whnf)
    refine hp.storeW (vs := C2 (n % w64) (n / w64)) rfl (by repeat (first | exact Rm.here | apply Rm.there)) (by rfl) rfl rfl rfl ?_
    clear hp
    intro s hp _
    conv => whnf
    refine Sm.ofW ?_
    conv => whnf
    refine hp.loadA (l := C2 (n % w64) (n / w64)) (by repeat (first | exact Has.here | apply Has.there | (apply Has.swap; repeat (first | exact HasR.here | apply HasR.there)))) rfl (by rfl) rfl rfl ?_
    conv => whnf
    exact ⟨hp.fr, rfl⟩
  · rw [if_neg h]
    have fin : ∀ s', Hp (fun _ => False) z [] [blkA p3 p3 (C2 0 0) 1, blkA p1 p1 (C4 (n % w64) (n / w64 % w64) c d) 1] s' → True := fun _ _ => trivial
    by_cases h2 : c = 0
    · have h3 : d ≠ 0 := fun h3 => h (hlt.2 ⟨h2, h3⟩)
      refine Br.no (ye _ h2) ?_
      conv => whnf
      (refine Om.of _ rfl ?_; conv => whnf)
      refine Br.no (ye _ h2) ?_
      conv => whnf
      (refine hp.load (by repeat (first | exact Has.here | apply Has.there | (apply Has.swap; repeat (first | exact HasR.here | apply HasR.there)))) (by rfl) rfl rfl rfl ?_; conv => whnf)
      refine Br.no (ye _ h2) ?_
      conv => whnf
      refine Br.no (ye _ h2) ?_
      conv => whnf
      refine Sm.ofW ?_
      conv => whnf
      refine Br.yes (no _ h3) ?_
      conv => whnf
      refine hp.storeW (vs := C2 0 0) rfl (by repeat (first | exact Rm.here | apply Rm.there)) (by rfl) rfl rfl rfl ?_
      clear hp
      intro s hp _
      conv => whnf
      refine hp.loadA (l := C2 0 0) (by repeat (first | exact Has.here | apply Has.there | (apply Has.swap; repeat (first | exact HasR.here | apply HasR.there)))) rfl (by rfl) rfl rfl ?_
      conv => whnf
      exact ⟨hp.fr, rfl⟩
    · refine Br.yes (no _ h2) ?_
      conv => whnf
      refine Br.yes (no _ h2) ?_
      conv => whnf
      refine Br.yes (no _ h2) ?_
      conv => whnf
      refine Br.yes (no _ h2) ?_
      conv => whnf
      refine Sm.ofW ?_
      conv => whnf
      refine Br.yes rfl ?_
      conv => whnf
      refine hp.storeW (vs := C2 0 0) rfl (by repeat (first | exact Rm.here | apply Rm.there)) (by rfl) rfl rfl rfl ?_
      clear hp
      intro s hp _
      conv => whnf
      refine hp.loadA (l := C2 0 0) (by repeat (first | exact Has.here | apply Has.there | (apply Has.swap; repeat (first | exact HasR.here | apply HasR.there)))) rfl (by rfl) rfl rfl ?_
      conv => whnf
      exact ⟨hp.fr, rfl⟩
theorem lWide_spec {z : St} (wf : WF z) {n : Nat} (hn : n < w128) :
    Cw Tryd.prog 43 [W2 n] z fun r s' => K0 z s' ∧ r = W4 n := by
  have hp : Hp (fun _ => False) z [] [] z := Hp.start _ wf _ (by simp)
  rw [w4_short hn]
  refine Cw.enterS Tryd.func43 rfl rfl ?_
  refine Sm.seqW ?_
  conv => whnf
  refine hp.var (cs := C2 (n % w64) (n / w64)) (e := 1) rfl rfl ?_
  clear hp
  intro p1 s hp _
  conv => whnf
  refine hp.alloc (cs := C4 0 0 0 0) (e := 1) rfl rfl rfl rfl rfl ?_
  clear hp
  intro p3 s hp _
  conv => whnf
  refine Sm.seqW ?_
  conv => whnf
  (refine Om.of _ rfl ?_; conv => whnf)
  (refine hp.load (by repeat (first | exact Has.here | apply Has.there | (apply Has.swap; repeat (first | exact HasR.here | apply HasR.there)))) (by rfl) rfl rfl rfl ?_; conv => whnf)
  (refine Om.of _ rfl ?_; conv => whnf)
  (refine hp.load (by repeat (first | exact Has.here | apply Has.there | (apply Has.swap; repeat (first | exact HasR.here | apply HasR.there)))) (by rfl) rfl rfl rfl ?_; conv => whnf)
  refine hp.storeW (vs := C4 (n % w64) (n / w64) 0 0) rfl (by repeat (first | exact Rm.here | apply Rm.there)) (by rfl) rfl rfl rfl ?_
  clear hp
  intro s hp _
  conv => whnf
  refine Sm.ofW ?_
  conv => whnf
  refine hp.loadA (l := C4 (n % w64) (n / w64) 0 0) (by repeat (first | exact Has.here | apply Has.there | (apply Has.swap; repeat (first | exact HasR.here | apply HasR.there)))) rfl (by rfl) rfl rfl ?_
  conv => whnf
  exact ⟨hp.fr, rfl⟩
def subR (a b : Nat) : Value := if b ≤ a then .tuple #[W2 (a - b), .bool true] else .tuple #[W2 0, .bool false]
theorem lSub_spec {z : St} (wf : WF z) {a b : Nat} (ha : a < w128) (hb : b < w128) :
    Cw Tryd.prog 83 [W2 a, W2 b] z fun r s' => K0 z s' ∧ r = subR a b := by
  have hp : Hp (fun _ => False) z [] [] z := Hp.start _ wf _ (by simp)
  obtain ⟨a1, a2⟩ := w2_lt ha
  obtain ⟨b1, b2⟩ := w2_lt hb
  have hle : (b ≤ a ↔ ¬ (a / w64 < b / w64 + if a % w64 < b % w64 + 0 then 1 else 0)) ∧ (b ≤ a → (a % w64 + w64 + w64 - b % w64 - 0) % w64 = (a - b) % w64 ∧ (a / w64 + w64 + w64 - b / w64 - if a % w64 < b % w64 + 0 then 1 else 0) % w64 = (a - b) / w64) := by
    simp only [w64, w128] at *
    split <;> omega
  have hbo : (if a % w64 < b % w64 + 0 then 1 else 0) ≤ 1 := by split <;> omega
  unfold W2 subR
  generalize a % w64 = al at *
  generalize a / w64 = ah at *
  generalize b % w64 = bl at *
  generalize b / w64 = bh at *
  generalize hbr : (if al < bl + 0 then 1 else 0) = br at hle hbo
  refine Cw.enterS Tryd.func83 rfl rfl ?_
  refine Sm.seqW ?_
  conv => whnf
  refine hp.var (cs := C2 al ah) (e := 1) rfl rfl ?_
  clear hp
  intro p1 s hp _
  conv => whnf
  refine hp.var (cs := C2 bl bh) (e := 1) rfl rfl ?_
  clear hp
  intro p2 s hp _
  conv => whnf
  refine hp.alloc (cs := C2 0 0) (e := 1) rfl rfl rfl rfl rfl ?_
  clear hp
  intro p3 s hp _
  conv => whnf
  refine Sm.live [2, 3, 4, 5] ?_
  conv => whnf
  refine Sm.seqW ?_
  conv => whnf
  (refine Om.of _ rfl ?_; conv => whnf)
  (refine hp.load (by repeat (first | exact Has.here | apply Has.there | (apply Has.swap; repeat (first | exact HasR.here | apply HasR.there)))) (by rfl) rfl rfl rfl ?_; conv => whnf)
  (refine Om.of _ rfl ?_; conv => whnf)
  (refine hp.load (by repeat (first | exact Has.here | apply Has.there | (apply Has.swap; repeat (first | exact HasR.here | apply HasR.there)))) (by rfl) rfl rfl rfl ?_; conv => whnf)
  refine (lless_spec _ (c := 0) a1 b1 (by decide)).mono ?_
  rintro _ _ ⟨rfl, rfl⟩
  rw [hbr]
  conv => whnf
  refine Sm.live [2, 3, 4, 5, 6, 7] ?_
  conv => whnf
  refine Sm.seqW ?_
  conv => whnf
  (refine Om.of _ rfl ?_; conv => whnf)
  (refine hp.load (by repeat (first | exact Has.here | apply Has.there | (apply Has.swap; repeat (first | exact HasR.here | apply HasR.there)))) (by rfl) rfl rfl rfl ?_; conv => whnf)
  (refine Om.of _ rfl ?_; conv => whnf)
  (refine hp.load (by repeat (first | exact Has.here | apply Has.there | (apply Has.swap; repeat (first | exact HasR.here | apply HasR.there)))) (by rfl) rfl rfl rfl ?_; conv => whnf)
  refine (lless_spec _ a2 b2 hbo).mono ?_
  rintro _ _ ⟨rfl, rfl⟩
  conv => whnf
  refine Sm.live [4, 5, 6, 8, 9] ?_
  conv => whnf
  refine Sm.seq ?_
  refine Sm.seqW ?_
  conv => whnf
  refine Sm.ofW ?_
  conv => whnf
  by_cases hlt : b ≤ a
  · rw [if_pos hlt, if_neg (hle.1.1 hlt), (hle.2 hlt).1, (hle.2 hlt).2]
    refine Br.no rfl ?_
    conv => whnf
    refine Sm.seqW ?_
    conv => whnf
    refine hp.storeW (vs := C2 ((a - b) % w64) ((a - b) / w64)) rfl (by repeat (first | exact Rm.here | apply Rm.there)) (by rfl) rfl rfl rfl ?_
    clear hp
    intro s hp _
    conv => whnf
    refine Sm.ofW ?_
    conv => whnf
    refine hp.loadA (l := C2 ((a - b) % w64) ((a - b) / w64)) (by repeat (first | exact Has.here | apply Has.there | (apply Has.swap; repeat (first | exact HasR.here | apply HasR.there)))) rfl (by rfl) rfl rfl ?_
    conv => whnf
    exact ⟨hp.fr, rfl⟩
  · have hlt2 : ah < bh + br := Decidable.byContradiction fun h => hlt (hle.1.2 h)
    rw [if_neg hlt, if_pos hlt2]
    refine Br.yes rfl ?_
    conv => whnf
    refine hp.storeW (vs := C2 0 0) rfl (by repeat (first | exact Rm.here | apply Rm.there)) (by rfl) rfl rfl rfl ?_
    clear hp
    intro s hp _
    conv => whnf
    refine hp.loadA (l := C2 0 0) (by repeat (first | exact Has.here | apply Has.there | (apply Has.swap; repeat (first | exact HasR.here | apply HasR.there)))) rfl (by rfl) rfl rfl ?_
    conv => whnf
    exact ⟨hp.fr, rfl⟩
end Go.Ev
end

/- Numbers of two words, further: Cmp, halves. No condition. -/
noncomputable section
namespace Go.Ev
open Go.Proofs
set_option linter.unusedVariables false
set_option maxRecDepth 100000

def cmpI (a b : Nat) : Int := if a < b then -1 else if a = b then 0 else 1
def kk : Nat → Int
  | 0 => 1
  | 1 => 0
  | _ => -1
theorem lCmp_spec {z : St} (wf : WF z) {a b : Nat} (ha : a < w128) (hb : b < w128) :
    Cw Tryd.prog 73 [W2 a, W2 b] z fun r s' => K0 z s' ∧ r = .int .i64 (cmpI a b) := by
  have hp : Hp (fun _ => False) z [] [] z := Hp.start _ wf _ (by simp)
  have c1 : a / w64 < b / w64 → cmpI a b = -1 := fun h => by unfold cmpI; rw [if_pos (by simp only [w64] at *; omega)]
  have c2 : b / w64 < a / w64 → cmpI a b = 1 := fun h => by unfold cmpI; rw [if_neg (by simp only [w64] at *; omega), if_neg (by simp only [w64] at *; omega)]
  have c3 : a / w64 = b / w64 → a % w64 < b % w64 → cmpI a b = -1 := fun h g => by unfold cmpI; rw [if_pos (by simp only [w64] at *; omega)]
  have c4 : a / w64 = b / w64 → b % w64 < a % w64 → cmpI a b = 1 := fun h g => by unfold cmpI; rw [if_neg (by simp only [w64] at *; omega), if_neg (by simp only [w64] at *; omega)]
  have c5 : a / w64 = b / w64 → b % w64 = a % w64 → cmpI a b = 0 := fun h g => by unfold cmpI; rw [if_neg (by simp only [w64] at *; omega), if_pos (by simp only [w64] at *; omega)]
  unfold W2
  generalize cmpI a b = r at *
  generalize a % w64 = al at *
  generalize a / w64 = ah at *
  generalize b % w64 = bl at *
  generalize b / w64 = bh at *
  refine Cw.enterS Tryd.func73 rfl rfl ?_
  refine Sm.seqW ?_
  conv => whnf
  refine hp.var (cs := C2 al ah) (e := 1) rfl rfl ?_
  clear hp
  intro p1 s hp _
  conv => whnf
  refine hp.var (cs := C2 bl bh) (e := 1) rfl rfl ?_
  clear hp
  intro p2 s hp _
  conv => whnf
  refine Sm.live [2, 3] ?_
  conv => whnf
  refine Sm.seq ?_
  refine Sm.seqW ?_
  conv => whnf
  refine Sm.block ?_
  refine Sm.loop ?_
  refine Lp.ofS (α := Nat) (fun m => [(2, .pointer (some ⟨p1, 0, none⟩)), (3, .pointer (some ⟨p2, 0, none⟩)), (5, .int .i64 (kk m))])
    (fun m s' => m ≤ 2 ∧ (1 ≤ m → ah = bh) ∧ (2 ≤ m → bl = al) ∧ Hp (fun _ => False) z [] [blkA p2 p2 (C2 bl bh) 1, blkA p1 p1 (C2 al ah) 1] s') (fun m => 2 - m) ?_ 0 (subK_ok (by refine ⟨rfl, rfl, rfl, trivial⟩)) ⟨by decide, fun h => absurd h (by decide), fun h => absurd h (by decide), hp⟩
  clear hp
  rintro m s ⟨hm, h1, h2, hp⟩
  have hcase : m = 0 ∨ m = 1 ∨ m = 2 := by omega
  rcases hcase with rfl | rfl | rfl
  · refine Sm.seq ?_
    refine Sm.seqW ?_
    conv => whnf
    refine Sm.ofW ?_
    conv => whnf
    refine Br.yes rfl ?_
    conv => whnf
    refine Sm.seq (Sm.block ?_)
    refine Sm.seqW ?_
    conv => whnf
    refine ⟨[0, 1, 3, 0, 8, 24, 63], by decide +kernel, by decide +kernel, ?_⟩
    conv => whnf
    (refine Om.of _ rfl ?_; conv => whnf)
    (refine hp.load (by repeat (first | exact Has.here | apply Has.there | (apply Has.swap; repeat (first | exact HasR.here | apply HasR.there)))) (by rfl) rfl rfl rfl ?_; conv => whnf)
    (refine Om.of _ rfl ?_; conv => whnf)
    (refine hp.load (by repeat (first | exact Has.here | apply Has.there | (apply Has.swap; repeat (first | exact HasR.here | apply HasR.there)))) (by rfl) rfl rfl rfl ?_; conv => whnf)
    by_cases he : ah = bh
    · refine Sm.ofW ?_
      conv => whnf
      refine Br.no (bne_eq_false_iff_eq.2 (by exact congrArg Int.ofNat he)) ?_
      conv => whnf
      refine Sm.ofW ?_
      conv => whnf
      exact ⟨1, by decide, subK_ok (by refine ⟨rfl, rfl, rfl, trivial⟩), by decide, fun _ => he, fun h => absurd h (by decide), hp⟩
    · refine Sm.cond (v := true) (congrArg (fun x => some (Value.bool x)) (bne_iff_ne.2 (by intro h; exact he (Int.ofNat.inj h)))) (fun _ => ?_) (fun h => by cases h)
      refine Sm.seq ?_
      refine Sm.seqW ?_
      conv => whnf
      refine ⟨[0, 1, 3, 0, 8, 24, 63], by decide +kernel, by decide +kernel, ?_⟩
      conv => whnf
      (refine Om.of _ rfl ?_; conv => whnf)
      (refine hp.load (by repeat (first | exact Has.here | apply Has.there | (apply Has.swap; repeat (first | exact HasR.here | apply HasR.there)))) (by rfl) rfl rfl rfl ?_; conv => whnf)
      (refine Om.of _ rfl ?_; conv => whnf)
      (refine hp.load (by repeat (first | exact Has.here | apply Has.there | (apply Has.swap; repeat (first | exact HasR.here | apply HasR.there)))) (by rfl) rfl rfl rfl ?_; conv => whnf)
      refine Sm.ofW ?_
      conv => whnf
      refine Br.mk (fun hc => ?_) (fun hc => ?_)
      · have hc := of_decide_eq_true hc
        conv => whnf
        exact ⟨hp.fr, congrArg (Value.int .i64) (c1 (by omega)).symm⟩
      · have hc := of_decide_eq_false hc
        conv => whnf
        refine Sm.ofW ?_
        conv => whnf
        exact ⟨hp.fr, congrArg (Value.int .i64) (c2 (by omega)).symm⟩
  · refine Sm.seq ?_
    refine Sm.seqW ?_
    conv => whnf
    refine Sm.ofW ?_
    conv => whnf
    refine Br.yes rfl ?_
    conv => whnf
    refine Sm.seq (Sm.block ?_)
    refine Sm.seqW ?_
    conv => whnf
    refine ⟨[0, 1, 3, 0, 8, 24, 63], by decide +kernel, by decide +kernel, ?_⟩
    conv => whnf
    (refine Om.of _ rfl ?_; conv => whnf)
    (refine hp.load (by repeat (first | exact Has.here | apply Has.there | (apply Has.swap; repeat (first | exact HasR.here | apply HasR.there)))) (by rfl) rfl rfl rfl ?_; conv => whnf)
    (refine Om.of _ rfl ?_; conv => whnf)
    (refine hp.load (by repeat (first | exact Has.here | apply Has.there | (apply Has.swap; repeat (first | exact HasR.here | apply HasR.there)))) (by rfl) rfl rfl rfl ?_; conv => whnf)
    by_cases he : bl = al
    · refine Sm.ofW ?_
      conv => whnf
      refine Br.no (bne_eq_false_iff_eq.2 (by exact congrArg Int.ofNat he.symm)) ?_
      conv => whnf
      refine Sm.ofW ?_
      conv => whnf
      exact ⟨2, by decide, subK_ok (by refine ⟨rfl, rfl, rfl, trivial⟩), by decide, fun _ => h1 (by decide), fun _ => he, hp⟩
    · refine Sm.cond (v := true) (congrArg (fun x => some (Value.bool x)) (bne_iff_ne.2 (by intro h; exact he (Int.ofNat.inj h).symm))) (fun _ => ?_) (fun h => by cases h)
      refine Sm.seq ?_
      refine Sm.seqW ?_
      conv => whnf
      refine ⟨[0, 1, 3, 0, 8, 24, 63], by decide +kernel, by decide +kernel, ?_⟩
      conv => whnf
      (refine Om.of _ rfl ?_; conv => whnf)
      (refine hp.load (by repeat (first | exact Has.here | apply Has.there | (apply Has.swap; repeat (first | exact HasR.here | apply HasR.there)))) (by rfl) rfl rfl rfl ?_; conv => whnf)
      (refine Om.of _ rfl ?_; conv => whnf)
      (refine hp.load (by repeat (first | exact Has.here | apply Has.there | (apply Has.swap; repeat (first | exact HasR.here | apply HasR.there)))) (by rfl) rfl rfl rfl ?_; conv => whnf)
      refine Sm.ofW ?_
      conv => whnf
      refine Br.mk (fun hc => ?_) (fun hc => ?_)
      · have hc := of_decide_eq_true hc
        conv => whnf
        exact ⟨hp.fr, congrArg (Value.int .i64) (c3 (h1 (by decide)) (by omega)).symm⟩
      · have hc := of_decide_eq_false hc
        conv => whnf
        refine Sm.ofW ?_
        conv => whnf
        exact ⟨hp.fr, congrArg (Value.int .i64) (c4 (h1 (by decide)) (by omega)).symm⟩
  · refine Sm.seq ?_
    refine Sm.seqW ?_
    conv => whnf
    refine Sm.ofW ?_
    conv => whnf
    refine Br.no rfl ?_
    conv => whnf
    refine Sm.ofW ?_
    conv => whnf
    exact ⟨hp.fr, congrArg (Value.int .i64) (c5 (h1 (by decide)) (h2 (by decide))).symm⟩
/-- A number's halves of words. -/
def hv (n i : Nat) : Nat := n / 4294967296 ^ i % 4294967296
def H4 (n : Nat) : Value := .agg #[.int .u32 (hv n 0 : Int), .int .u32 (hv n 1 : Int), .int .u32 (hv n 2 : Int), .int .u32 (hv n 3 : Int)]
def HC (n : Nat) : List Value := [.int .u32 (hv n 0 : Int), .int .u32 (hv n 1 : Int), .int .u32 (hv n 2 : Int), .int .u32 (hv n 3 : Int)]
theorem fdiv32 (n : Nat) : ((n : Int)).fdiv (2 ^ 32) = ((n / 4294967296 : Nat) : Int) := by
  rw [Int.fdiv_eq_ediv_of_nonneg _ (by decide)]; exact (Int.natCast_ediv n 4294967296).symm
theorem hv_eq (n : Nat) (h : n < w128) : n % w64 % 4294967296 = hv n 0 ∧ n % w64 / 4294967296 % 4294967296 = hv n 1 ∧ n / w64 % 4294967296 = hv n 2 ∧ n / w64 / 4294967296 % 4294967296 = hv n 3 := by
  unfold hv
  have hB : w64 = 4294967296 * 4294967296 := by decide
  rw [hB, show (4294967296 : Nat) ^ 0 = 1 by decide, show (4294967296 : Nat) ^ 1 = 4294967296 by decide, show (4294967296 : Nat) ^ 2 = 4294967296 * 4294967296 by decide, show (4294967296 : Nat) ^ 3 = 4294967296 * 4294967296 * 4294967296 by decide]
  refine ⟨?_, ?_, rfl, ?_⟩
  · rw [Nat.mod_mul_right_mod, Nat.div_one]
  · rw [Nat.mod_mul_right_div_self, Nat.mod_mod]
  · rw [Nat.div_div_eq_div_mul]
theorem lhalves_spec {z : St} (wf : WF z) {n : Nat} (hn : n < w128) :
    Cw Tryd.prog 79 [W2 n] z fun r s' => K0 z s' ∧ r = H4 n := by
  have hp : Hp (fun _ => False) z [] [] z := Hp.start _ wf _ (by simp)
  obtain ⟨e0, e1, e2, e3⟩ := hv_eq n hn
  refine Cw.enterS Tryd.func79 rfl rfl ?_
  refine Sm.seqW ?_
  conv => whnf
  refine hp.var (cs := C2 (n % w64) (n / w64)) (e := 1) rfl rfl ?_
  clear hp
  intro p1 s hp _
  conv => whnf
  refine hp.alloc (cs := [.int .u32 0, .int .u32 0, .int .u32 0, .int .u32 0]) (e := 1) rfl rfl rfl rfl rfl ?_
  clear hp
  intro p3 s hp _
  conv => whnf
  refine Sm.seqW ?_
  conv => whnf
  (refine Om.of _ rfl ?_; conv => whnf)
  (refine hp.load (by repeat (first | exact Has.here | apply Has.there | (apply Has.swap; repeat (first | exact HasR.here | apply HasR.there)))) (by rfl) rfl rfl rfl ?_; conv => whnf)
  (refine Om.of _ rfl ?_; conv => whnf)
  (refine hp.load (by repeat (first | exact Has.here | apply Has.there | (apply Has.swap; repeat (first | exact HasR.here | apply HasR.there)))) (by rfl) rfl rfl rfl ?_; conv => whnf)
  refine Om.of _ (congrArg (fun x => some (Value.int .u64 x)) (fdiv32 _)) ?_
  conv => whnf
  (refine Om.of _ rfl ?_; conv => whnf)
  (refine hp.load (by repeat (first | exact Has.here | apply Has.there | (apply Has.swap; repeat (first | exact HasR.here | apply HasR.there)))) (by rfl) rfl rfl rfl ?_; conv => whnf)
  (refine Om.of _ rfl ?_; conv => whnf)
  (refine hp.load (by repeat (first | exact Has.here | apply Has.there | (apply Has.swap; repeat (first | exact HasR.here | apply HasR.there)))) (by rfl) rfl rfl rfl ?_; conv => whnf)
  refine Om.of _ (congrArg (fun x => some (Value.int .u64 x)) (fdiv32 _)) ?_
  conv => whnf
  simp only [wrap_u32, e0, e1, e2, e3]
  refine hp.storeW (vs := HC n) rfl (by repeat (first | exact Rm.here | apply Rm.there)) (by rfl) rfl rfl rfl ?_
  clear hp
  intro s hp _
  conv => whnf
  refine Sm.ofW ?_
  conv => whnf
  refine hp.loadA (l := HC n) (by repeat (first | exact Has.here | apply Has.there | (apply Has.swap; repeat (first | exact HasR.here | apply HasR.there)))) rfl (by rfl) rfl rfl ?_
  conv => whnf
  exact ⟨hp.fr, rfl⟩
end Go.Ev
end

/- Numbers of two words, further: Mul. No condition. -/
noncomputable section
namespace Go.Ev
open Go.Proofs
set_option linter.unusedVariables false
set_option maxRecDepth 100000

abbrev B32 : Nat := 4294967296
/-- What half words are worth. -/
def Vh : List Nat → Nat
  | [] => 0
  | d :: l => d + B32 * Vh l
theorem Vh_set : ∀ (l : List Nat) (k v : Nat) (h : k < l.length), Vh (l.set k v) + l[k] * B32 ^ k = Vh l + v * B32 ^ k
  | [], k, v, h => by simp at h
  | d :: l, 0, v, h => by simp [Vh]; omega
  | d :: l, k + 1, v, h => by
    have ih := Vh_set l k v (by simpa using h)
    simp only [List.set_cons_succ, List.getElem_cons_succ, Vh, Nat.pow_succ]
    have e1 : ∀ x, x * (B32 ^ k * B32) = B32 * (x * B32 ^ k) := fun x => by rw [Nat.mul_comm B32 (x * B32 ^ k), Nat.mul_assoc]
    rw [e1, e1]
    have := congrArg (fun x => B32 * x) ih
    simp only [Nat.mul_add] at this
    omega
def natU (l : List Nat) : List Value := l.map fun (n : Nat) => .int .u64 (n : Int)
theorem natU_len (l : List Nat) : (natU l).length = l.length := by simp [natU]
theorem natU_get (l : List Nat) (k : Nat) (h : k < l.length) : (natU l)[k]? = some (.int .u64 (l[k] : Int)) := by simp [natU, h]
theorem natU_set (l : List Nat) (k v : Nat) : (natU l).set k (.int .u64 (v : Int)) = natU (l.set k v) := by simp [natU, List.map_set]
theorem ixA {P : Program} {t n e : Nat} (hu : P.underlying t = some (.array n e)) {j : TypeInfo} (hi : P.info? e = some j) (hj : j.size = 1) {b off i : Nat} (k : IntKind) (h : i < n) :
    evIndexAddr P t (.pointer (some ⟨b, off, none⟩)) (.int k (i : Int)) = some (.pointer (some ⟨b, off + i, none⟩)) := by
  show (match P.underlying t, Value.pointer (some ⟨b, off, none⟩), Value.int k (.ofNat i) with
    | some (.slice e), .slice (some a) n _, .int _ (.ofNat i) => match Nat.blt i n, P.info? e with
      | true, some j => some (Value.pointer (some ⟨a.block, a.off + i * j.size, none⟩))
      | _, _ => none
    | some (.array n e), .pointer (some a), .int _ (.ofNat i) => match Nat.blt i n, P.info? e with
      | true, some j => some (Value.pointer (some ⟨a.block, a.off + i * j.size, none⟩))
      | _, _ => none
    | _, _, _ => none) = _
  have hb : Nat.blt i n = true := by rw [Nat.blt_eq]; exact h
  simp only [hu, hb, hi, hj, Nat.mul_one]
theorem ixV (n : Nat) : ∀ i : Nat, i < 4 → evIndex Tryd.prog 95 (H4 n) (.int .i64 (i : Int)) = some (.int .u32 (hv n i : Int))
  | 0, _ => rfl
  | 1, _ => rfl
  | 2, _ => rfl
  | 3, _ => rfl
  | _ + 4, h => by omega
theorem hv_lt (n i : Nat) : hv n i < B32 := Nat.mod_lt _ (by decide)
/-- One step of the product: its parts. -/
theorem mul_step {V o c N r d X eM g V' : Nat} (h : V + c * g = X + eM) (hs : V' + o * g = V + r * g) (hn : N + o + c = B32 * d + r) : V' + d * (g * B32) = X + (eM + N * g) := by
  have h1 := congrArg (fun x => x * g) hn
  simp only [Nat.add_mul] at h1
  have e1 : B32 * d * g = d * (g * B32) := by rw [Nat.mul_comm B32 d, Nat.mul_assoc, Nat.mul_comm B32 g]
  rw [e1] at h1
  omega
theorem prod_lt {p q o c : Nat} (hp : p < B32) (hq : q < B32) (ho : o < B32) (hc : c < B32) : p * q + o + c < w64 := by
  have h1 : p * q ≤ 4294967295 * 4294967295 := Nat.mul_le_mul (by simp only [B32] at *; omega) (by simp only [B32] at *; omega)
  simp only [B32, w64] at *
  omega
/-- What stands after some rows, and some of a row. -/
structure MulOk (a b i j c : Nat) (l : List Nat) : Prop where
  len : l.length = 8
  lt : ∀ x ∈ l, x < B32
  zero : ∀ k (h : k < l.length), i + 4 ≤ k → l[k] = 0
  cl : c < B32
  val : Vh l + c * (B32 ^ i * B32 ^ j) = a % B32 ^ i * b + B32 ^ i * (hv a i * (b % B32 ^ j))
theorem MulOk.step {a b i j c : Nat} {l : List Nat} (h : MulOk a b i j c l) (hi : i < 4) (hj : j < 4) :
    ∃ hk : i + j < l.length, hv a i * hv b j + l[i + j] + c < w64 ∧ MulOk a b i (j + 1) ((hv a i * hv b j + l[i + j] + c) / B32) (l.set (i + j) ((hv a i * hv b j + l[i + j] + c) % B32)) := by
  have hk : i + j < l.length := by rw [h.len]; omega
  have hlt := prod_lt (hv_lt a i) (hv_lt b j) (h.lt _ (List.getElem_mem hk)) h.cl
  refine ⟨hk, hlt, by rw [List.length_set]; exact h.len, fun x hx => ?_, fun k hk2 hik => ?_, ?_, ?_⟩
  · rcases List.mem_or_eq_of_mem_set hx with g | g
    · exact h.lt x g
    · rw [g]; exact Nat.mod_lt _ (by decide)
  · rw [List.getElem_set_ne (by omega)]
    exact h.zero k (by simpa using hk2) hik
  · rw [Nat.div_lt_iff_lt_mul (by decide)]
    rw [show B32 * B32 = w64 by decide]; exact hlt
  · have hs := Vh_set l (i + j) ((hv a i * hv b j + l[i + j] + c) % B32) hk
    rw [Nat.pow_add] at hs
    have hn : hv a i * hv b j + l[i + j] + c = B32 * ((hv a i * hv b j + l[i + j] + c) / B32) + (hv a i * hv b j + l[i + j] + c) % B32 := (Nat.div_add_mod _ _).symm
    have := mul_step h.val hs hn
    rw [Nat.pow_succ, ← Nat.mul_assoc (B32 ^ i)]
    rw [this]
    have e1 : b % (B32 ^ j * B32) = b % B32 ^ j + B32 ^ j * hv b j := by rw [← Nat.pow_succ, Nat.mod_pow_succ]; rfl
    rw [e1]
    congr 1
    rw [Nat.mul_add, Nat.mul_add]
    congr 1
    rw [Nat.mul_comm (hv a i * hv b j), Nat.mul_assoc, ← Nat.mul_assoc (hv a i), Nat.mul_comm (hv a i) (B32 ^ j), Nat.mul_assoc]
theorem MulOk.row {a b i c : Nat} {l : List Nat} (h : MulOk a b i 4 c l) (hi : i < 4) (hb : b < w128) : ∃ hk : i + 4 < l.length, MulOk a b (i + 1) 0 0 (l.set (i + 4) c) := by
  have hk : i + 4 < l.length := by rw [h.len]; omega
  have h0 : l[i + 4] = 0 := h.zero _ hk (Nat.le_refl _)
  refine ⟨hk, by rw [List.length_set]; exact h.len, fun x hx => ?_, fun k hk2 hik => ?_, by decide, ?_⟩
  · rcases List.mem_or_eq_of_mem_set hx with g | g
    · exact h.lt x g
    · rw [g]; exact h.cl
  · rw [List.getElem_set_ne (by omega)]
    exact h.zero k (by simpa using hk2) (by omega)
  · have hs := Vh_set l (i + 4) c hk
    rw [h0, Nat.zero_mul, Nat.add_zero, Nat.pow_add] at hs
    have hv2 := h.val
    have hbm : b % B32 ^ 4 = b := Nat.mod_eq_of_lt (by rw [show B32 ^ 4 = w128 by decide]; exact hb)
    rw [hbm] at hv2
    rw [hs, hv2, Nat.zero_mul, Nat.add_zero, Nat.pow_zero, Nat.mod_one, Nat.mul_zero, Nat.mul_zero, Nat.add_zero, Nat.mod_pow_succ, Nat.add_mul, Nat.mul_assoc]
    rfl
theorem MulOk.done {a b c : Nat} {l : List Nat} (h : MulOk a b 4 0 c l) (hc : c = 0) (ha : a < w128) : Vh l = a * b := by
  have hv2 := h.val
  have ham : a % B32 ^ 4 = a := Nat.mod_eq_of_lt (by rw [show B32 ^ 4 = w128 by decide]; exact ha)
  rw [ham, hc, Nat.zero_mul, Nat.add_zero, Nat.pow_zero, Nat.mod_one, Nat.mul_zero, Nat.mul_zero, Nat.add_zero] at hv2
  exact hv2
theorem MulOk.start (a b : Nat) : MulOk a b 0 0 0 [0, 0, 0, 0, 0, 0, 0, 0] := ⟨rfl, by decide, by decide, by decide, by
  rw [Nat.pow_zero, Nat.mod_one, Nat.mod_one]; simp [Vh]⟩
theorem pair_lt {x y : Nat} (hx : x < B32) (hy : y < B32) : x + y * B32 < w64 := by
  have hx : x < 4294967296 := hx
  have hy : y < 4294967296 := hy
  show x + y * 4294967296 < 18446744073709551616
  omega
theorem w4_of {x0 x1 x2 x3 n : Nat} (e : n = x0 + w64 * (x1 + w64 * (x2 + w64 * x3))) (b0 : x0 < w64) (b1 : x1 < w64) (b2 : x2 < w64) : W4 n = A4 x0 x1 x2 x3 := by
  have d1 : n / w64 = x1 + w64 * (x2 + w64 * x3) := by rw [e, Nat.add_mul_div_left _ _ (by decide), Nat.div_eq_of_lt b0, Nat.zero_add]
  have d2 : n / w128 = x2 + w64 * x3 := by
    rw [show w128 = w64 * w64 by decide, ← Nat.div_div_eq_div_mul, d1, Nat.add_mul_div_left _ _ (by decide), Nat.div_eq_of_lt b1, Nat.zero_add]
  have d3 : n / w192 = x3 := by
    rw [show w192 = w128 * w64 by decide, ← Nat.div_div_eq_div_mul, d2, Nat.add_mul_div_left _ _ (by decide), Nat.div_eq_of_lt b2, Nat.zero_add]
  have m0 : n % w64 = x0 := by rw [e, Nat.add_mul_mod_self_left, Nat.mod_eq_of_lt b0]
  unfold W4
  rw [d2, d3, d1, m0, Nat.add_mul_mod_self_left, Nat.mod_eq_of_lt b1, Nat.add_mul_mod_self_left, Nat.mod_eq_of_lt b2]
theorem halves_sum (l0 l1 r : Nat) : l0 + B32 * (l1 + B32 * r) = (l0 + l1 * B32) + w64 * r := by
  rw [show w64 = B32 * B32 by decide, Nat.mul_add, Nat.mul_comm l1, Nat.mul_assoc, Nat.add_assoc]
/-- The words of half words. -/
theorem words_of {l0 l1 l2 l3 l4 l5 l6 l7 n : Nat} (h : Vh [l0, l1, l2, l3, l4, l5, l6, l7] = n) (h0 : l0 < B32) (h1 : l1 < B32) (h2 : l2 < B32) (h3 : l3 < B32) (h4 : l4 < B32) (h5 : l5 < B32) :
    W4 n = A4 (l0 + l1 * B32) (l2 + l3 * B32) (l4 + l5 * B32) (l6 + l7 * B32) := by
  refine w4_of ?_ (pair_lt h0 h1) (pair_lt h2 h3) (pair_lt h4 h5)
  rw [← h]
  show l0 + B32 * (l1 + B32 * (l2 + B32 * (l3 + B32 * (l4 + B32 * (l5 + B32 * (l6 + B32 * (l7 + B32 * 0))))))) = _
  rw [halves_sum, halves_sum, halves_sum, halves_sum, Nat.mul_zero, Nat.add_zero]
end Go.Ev
end

/- Numbers of two words, further: Mul walked. No condition. -/
noncomputable section
namespace Go.Ev
open Go.Proofs
set_option linter.unusedVariables false
set_option maxRecDepth 100000

theorem inRk {n : Nat} (h : n < 1000) : IntKind.i64.wrap (n : Int) = (n : Int) := wi64 (by omega) (by omega)
def wpart (a b c d : Nat) : Nat → List Value
  | 0 => C4 0 0 0 0
  | 1 => C4 a 0 0 0
  | 2 => C4 a b 0 0
  | 3 => C4 a b c 0
  | _ => C4 a b c d
theorem C4_same (a b c d a' b' c' d' : Nat) : (C4 a b c d).length = (C4 a' b' c' d').length := rfl
theorem lMul_spec {z : St} (wf : WF z) {a b : Nat} (ha : a < w128) (hb : b < w128) :
    Cw Tryd.prog 51 [W2 a, W2 b] z fun r s' => K0 z s' ∧ r = W4 (a * b) := by
  have hp : Hp (fun _ => False) z [] [] z := Hp.start _ wf _ (by simp)
  refine Cw.enterS Tryd.func51 rfl rfl ?_
  refine Sm.seqW ?_
  conv => whnf
  refine hp.var (cs := C2 (a % w64) (a / w64)) (e := 1) rfl rfl ?_
  clear hp
  intro p1 s hp _
  conv => whnf
  refine hp.var (cs := C2 (b % w64) (b / w64)) (e := 1) rfl rfl ?_
  clear hp
  intro p2 s hp _
  conv => whnf
  refine hp.alloc (cs := C4 0 0 0 0) (e := 1) rfl rfl rfl rfl rfl ?_
  clear hp
  intro p4 s hp _
  conv => whnf
  refine Sm.live [2, 3, 4] ?_
  conv => whnf
  refine Sm.seqW ?_
  conv => whnf
  refine hp.alloc (cs := natU [0, 0, 0, 0, 0, 0, 0, 0]) (e := 1) rfl rfl rfl rfl rfl ?_
  clear hp
  intro p5 s hp _
  conv => whnf
  refine Sm.live [2, 3, 4, 5] ?_
  conv => whnf
  refine Sm.seqW ?_
  conv => whnf
  refine ⟨[0, 1, 0, 7, 0, 0, 63, 127], by decide +kernel, by decide +kernel, ?_⟩
  conv => whnf
  refine hp.loadA (l := C2 (a % w64) (a / w64)) (by repeat (first | exact Has.here | apply Has.there | (apply Has.swap; repeat (first | exact HasR.here | apply HasR.there)))) rfl (by rfl) rfl rfl ?_
  conv => whnf
  (refine hp.rst.call (lhalves_spec hp.rst.wf ha) ?_; rintro _ s1 rfl h1 k1; (conv => whnf); refine hp.dkN h1 k1 ?_; clear hp h1 k1; intro s hp; conv => whnf)
  refine hp.loadA (l := C2 (b % w64) (b / w64)) (by repeat (first | exact Has.here | apply Has.there | (apply Has.swap; repeat (first | exact HasR.here | apply HasR.there)))) rfl (by rfl) rfl rfl ?_
  conv => whnf
  (refine hp.rst.call (lhalves_spec hp.rst.wf hb) ?_; rintro _ s1 rfl h1 k1; (conv => whnf); refine hp.dkN h1 k1 ?_; clear hp h1 k1; intro s hp; conv => whnf)
  refine hp.rst.alloc (cs := [.int .u32 0, .int .u32 0, .int .u32 0, .int .u32 0]) (e := 1) rfl rfl rfl rfl rfl ?_
  intro p6 s1 h1 k1
  conv => whnf
  refine hp.dkN h1 k1 ?_
  clear hp h1 k1
  intro s hp
  conv => whnf
  refine hp.rst.alloc (cs := [.int .u32 0, .int .u32 0, .int .u32 0, .int .u32 0]) (e := 1) rfl rfl rfl rfl rfl ?_
  intro p7 s1 h1 k1
  conv => whnf
  refine hp.dkN h1 k1 ?_
  clear hp h1 k1
  intro s hp
  conv => whnf
  refine hp.rst.storeW (vs := HC a) rfl (by repeat (first | exact Rm.here | apply Rm.there)) (by rfl) rfl rfl rfl ?_
  intro s1 h1 l1
  conv => whnf
  refine hp.dkW h1 l1 ?_
  clear hp h1 l1
  intro s hp
  conv => whnf
  refine hp.rst.storeW (vs := HC b) rfl (by repeat (first | exact Rm.here | apply Rm.there)) (by rfl) rfl rfl rfl ?_
  intro s1 h1 l1
  conv => whnf
  refine hp.dkW h1 l1 ?_
  clear hp h1 l1
  intro s hp
  conv => whnf
  refine Sm.live [4, 5, 6, 7] ?_
  conv => whnf
  refine Sm.seq ?_
  refine Sm.seqW ?_
  conv => whnf
  refine hp.loadA (l := HC a) (by repeat (first | exact Has.here | apply Has.there | (apply Has.swap; repeat (first | exact HasR.here | apply HasR.there)))) rfl (by rfl) rfl rfl ?_
  conv => whnf
  refine Sm.block ?_
  refine Sm.loop ?_
  refine Lp.ofS (α := Nat × List Nat) (fun x => [(4, .pointer (some ⟨p4, 0, none⟩)), (5, .pointer (some ⟨p5, 0, none⟩)), (7, .pointer (some ⟨p7, 0, none⟩)), (20, H4 a), (21, .int .i64 (x.1 : Int))])
    (fun x s' => x.1 ≤ 4 ∧ MulOk a b x.1 0 0 x.2 ∧ Hp (fun _ => False) z [] [blkA p7 p7 (HC b) 1, blkA p5 p5 (natU x.2) 1, blkA p4 p4 (C4 0 0 0 0) 1] s') (fun x => 4 - x.1) ?_ (0, [0, 0, 0, 0, 0, 0, 0, 0]) (subK_ok (by refine ⟨rfl, rfl, rfl, rfl, rfl, trivial⟩)) ⟨by decide, MulOk.start a b, hp.pik (by repeat (first | exact Pik.nil | exact Pik.refl _ | exact Rm.here | apply Rm.there | apply Pik.cons | apply Pik.skip))⟩
  clear hp
  rintro ⟨i, l⟩ s ⟨hi, ok, hp⟩
  simp only at hi ok hp
  refine Sm.seqW ?_
  conv => whnf
  refine Sm.seqW ?_
  conv => whnf
  refine Br.mk (fun hc => ?_) (fun hc => ?_)
  · have hc : i < 4 := by have := of_decide_eq_true hc; omega
    conv => whnf
    refine Sm.seq (Sm.block ?_)
    refine Sm.seqW ?_
    conv => whnf
    refine Om.of _ (ixV a i hc) ?_
    conv => whnf
    refine Sm.seqW ?_
    conv => whnf
    refine Sm.live [4, 5, 7, 8, 9, 10, 20, 21] ?_
    conv => whnf
    refine Sm.seq ?_
    refine Sm.seqW ?_
    conv => whnf
    refine hp.loadA (l := HC b) (by repeat (first | exact Has.here | apply Has.there | (apply Has.swap; repeat (first | exact HasR.here | apply HasR.there)))) rfl (by rfl) rfl rfl ?_
    conv => whnf
    refine Sm.block ?_
    refine Sm.loop ?_
    refine Lp.ofS (α := Nat × Nat × List Nat) (fun y => [(4, .pointer (some ⟨p4, 0, none⟩)), (5, .pointer (some ⟨p5, 0, none⟩)), (7, .pointer (some ⟨p7, 0, none⟩)), (8, .int .i64 (i : Int)), (9, .int .u32 (hv a i : Int)), (10, .int .u64 (y.2.1 : Int)), (20, H4 a), (21, .int .i64 (i : Int)), (25, H4 b), (26, .int .i64 (y.1 : Int))])
      (fun y s' => y.1 ≤ 4 ∧ MulOk a b i y.1 y.2.1 y.2.2 ∧ Hp (fun _ => False) z [] [blkA p7 p7 (HC b) 1, blkA p5 p5 (natU y.2.2) 1, blkA p4 p4 (C4 0 0 0 0) 1] s') (fun y => 4 - y.1) ?_ (0, 0, l) (subK_ok (by refine ⟨rfl, rfl, rfl, rfl, rfl, rfl, rfl, rfl, rfl, rfl, trivial⟩)) ⟨Nat.zero_le _, ok, hp.pik (by repeat (first | exact Pik.nil | exact Pik.refl _ | exact Rm.here | apply Rm.there | apply Pik.cons | apply Pik.skip))⟩
    clear hp ok
    rintro ⟨j, c, m⟩ s ⟨hj, ok, hp⟩
    simp only at hj ok hp
    refine Sm.seqW ?_
    conv => whnf
    refine Sm.seqW ?_
    conv => whnf
    refine Br.mk (fun hq => ?_) (fun hq => ?_)
    · have hq : j < 4 := by have := of_decide_eq_true hq; omega
      obtain ⟨hk, hlt, ok2⟩ := ok.step hc hq
      conv => whnf
      refine Sm.seq (Sm.block ?_)
      refine Sm.seqW ?_
      conv => whnf
      refine Om.of _ (ixV b j hq) ?_
      conv => whnf
      refine Sm.live [4, 5, 7, 8, 9, 10, 11, 12, 20, 21, 25, 26] ?_
      conv => whnf
      refine Sm.seqW ?_
      conv => whnf
      have eij : IntKind.i64.wrap ((i : Int) + (j : Int)) = ((i + j : Nat) : Int) := by rw [wi64 (by omega) (by omega)]; push_cast; rfl
      rw [eij]
      refine Om.of _ (ixA Tryd.underlying93 rfl rfl .i64 (show i + j < 8 by omega)) ?_
      conv => whnf
      refine hp.load (v := .int .u64 (m[i + j] : Int)) (by repeat (first | exact Has.here | apply Has.there | (apply Has.swap; repeat (first | exact HasR.here | apply HasR.there)))) (by rw [Nat.zero_add]; exact natU_get m _ hk) rfl rfl rfl ?_
      conv => whnf
      have e1 : IntKind.u64.wrap (hv a i : Int) = (hv a i : Int) := by
        have := hv_lt a i
        rw [wrap_u64, Nat.mod_eq_of_lt (by simp only [B32] at this; omega)]
      have e2 : IntKind.u64.wrap (hv b j : Int) = (hv b j : Int) := by
        have := hv_lt b j
        rw [wrap_u64, Nat.mod_eq_of_lt (by simp only [B32] at this; omega)]
      have hlt' : hv a i * hv b j + m[i + j] + c < 18446744073709551616 := hlt
      have e3 : IntKind.u64.wrap (IntKind.u64.wrap (IntKind.u64.wrap (IntKind.u64.wrap (hv a i : Int) * IntKind.u64.wrap (hv b j : Int)) + (m[i + j] : Int)) + (c : Int)) = ((hv a i * hv b j + m[i + j] + c : Nat) : Int) := by
        rw [e1, e2, ← Int.natCast_mul, wrap_u64, Nat.mod_eq_of_lt (by omega), ← Int.natCast_add, wrap_u64, Nat.mod_eq_of_lt (by omega), ← Int.natCast_add, wrap_u64, Nat.mod_eq_of_lt hlt']
      rw [e3]
      generalize hn : hv a i * hv b j + m[i + j] + c = n at *
      refine Sm.live [4, 5, 7, 8, 9, 11, 13, 20, 21, 25, 26] ?_
      conv => whnf
      refine Sm.seqW ?_
      conv => whnf
      rw [eij]
      refine Om.of _ (ixA Tryd.underlying93 rfl rfl .i64 (show i + j < 8 by omega)) ?_
      conv => whnf
      have e4 : IntKind.u64.wrap (IntKind.u32.wrap (n : Int)) = ((n % B32 : Nat) : Int) := by
        rw [wrap_u32, wrap_u64, Nat.mod_eq_of_lt (by have := Nat.mod_lt n (show 0 < 4294967296 by decide); omega)]
      rw [e4]
      refine hp.store (by repeat (first | exact Rm.here | apply Rm.there)) (by rw [natU_len]; omega) rfl rfl rfl rfl ?_
      clear hp
      intro s hp _
      rw [Nat.zero_add, natU_set] at hp
      conv => whnf
      refine Sm.ofW ?_
      conv => whnf
      refine Om.of _ (congrArg (fun x => some (Value.int .u64 x)) (fdiv32 _)) ?_
      conv => whnf
      refine Sm.ofW ?_
      conv => whnf
      have ej : IntKind.i64.wrap ((j : Int) + 1) = ((j + 1 : Nat) : Int) := by rw [wi64 (by omega) (by omega)]; push_cast; rfl
      refine ⟨(j + 1, n / B32, m.set (i + j) (n % B32)), by (show 4 - (j + 1) < 4 - j); omega, subK_ok (by refine ⟨rfl, rfl, rfl, rfl, rfl, rfl, rfl, rfl, rfl, congrArg (fun x => some (Value.int .i64 x)) ej, trivial⟩), hq, ok2, hp.pik (by repeat (first | exact Pik.nil | exact Pik.refl _ | exact Rm.here | apply Rm.there | apply Pik.cons | apply Pik.skip))⟩
    · have hq : j = 4 := by have := of_decide_eq_false hq; omega
      subst hq
      obtain ⟨hk, ok2⟩ := ok.row hc hb
      conv => whnf
      refine Sm.ofW ?_
      conv => whnf
      have ei4 : IntKind.i64.wrap ((i : Int) + 4) = ((i + 4 : Nat) : Int) := by rw [wi64 (by omega) (by omega)]; push_cast; rfl
      rw [ei4]
      refine Om.of _ (ixA Tryd.underlying93 rfl rfl .i64 (show i + 4 < 8 by omega)) ?_
      conv => whnf
      refine hp.store (by repeat (first | exact Rm.here | apply Rm.there)) (by rw [natU_len]; omega) rfl rfl rfl rfl ?_
      clear hp
      intro s hp _
      rw [Nat.zero_add, natU_set] at hp
      conv => whnf
      refine Sm.ofW ?_
      conv => whnf
      have ei : IntKind.i64.wrap ((i : Int) + 1) = ((i + 1 : Nat) : Int) := by rw [wi64 (by omega) (by omega)]; push_cast; rfl
      refine ⟨(i + 1, m.set (i + 4) c), by (show 4 - (i + 1) < 4 - i); omega, subK_ok (by refine ⟨rfl, rfl, rfl, rfl, congrArg (fun x => some (Value.int .i64 x)) ei, trivial⟩), hc, ok2, hp.pik (by repeat (first | exact Pik.nil | exact Pik.refl _ | exact Rm.here | apply Rm.there | apply Pik.cons | apply Pik.skip))⟩
  · have hc : i = 4 := by have := of_decide_eq_false hc; omega
    subst hc
    conv => whnf
    have hsum := ok.done rfl ha
    have hlt := ok.lt
    obtain ⟨l0, l1, l2, l3, l4, l5, l6, l7, rfl⟩ : ∃ l0 l1 l2 l3 l4 l5 l6 l7, l = [l0, l1, l2, l3, l4, l5, l6, l7] := by
      have hlen := ok.len
      match l, hlen with
      | [l0, l1, l2, l3, l4, l5, l6, l7], _ => exact ⟨l0, l1, l2, l3, l4, l5, l6, l7, rfl⟩
    clear ok
    have g0 := hlt l0 (by simp)
    have g1 := hlt l1 (by simp)
    have g2 := hlt l2 (by simp)
    have g3 := hlt l3 (by simp)
    have g4 := hlt l4 (by simp)
    have g5 := hlt l5 (by simp)
    have g6 := hlt l6 (by simp)
    have g7 := hlt l7 (by simp)
    have hw := words_of hsum g0 g1 g2 g3 g4 g5
    clear hlt hsum
    have wd : ∀ x y : Nat, x < B32 → y < B32 → IntKind.u64.wrap ((BitVec.ofInt IntKind.u64.bits (x : Int) ||| BitVec.ofInt IntKind.u64.bits (IntKind.u64.wrap ((y : Int) * 2 ^ 32))).toNat : Int) = ((x + y * B32 : Nat) : Int) := by
      intro x y hx hy
      have hx : x < 4294967296 := hx
      have hy : y < 4294967296 := hy
      have e : IntKind.u64.wrap ((y : Int) * 2 ^ 32) = ((y * 4294967296 : Nat) : Int) := by
        rw [show ((2 : Int) ^ 32) = ((4294967296 : Nat) : Int) from rfl, ← Int.natCast_mul, wrap_u64, Nat.mod_eq_of_lt (by omega)]
      rw [e, or_u64 (by omega) (by omega)]
      have := or_shift (a := x) (b := y) (k := 32) (by omega)
      rw [show (2 : Nat) ^ 32 = 4294967296 by decide] at this
      rw [this]
    rw [hw]
    clear hw
    have w0 := wd l0 l1 g0 g1
    have w1 := wd l2 l3 g2 g3
    have w2 := wd l4 l5 g4 g5
    have w3 := wd l6 l7 g6 g7
    clear wd
    generalize l0 + l1 * B32 = x0 at w0 ⊢
    generalize l2 + l3 * B32 = x1 at w1 ⊢
    generalize l4 + l5 * B32 = x2 at w2 ⊢
    generalize l6 + l7 * B32 = x3 at w3 ⊢
    refine Sm.live [4, 5] ?_
    conv => whnf
    refine Sm.seqW ?_
    conv => whnf
    refine hp.alloc (cs := C4 0 0 0 0) (e := 1) rfl rfl rfl rfl rfl ?_
    clear hp
    intro p14 s hp _
    conv => whnf
    refine Sm.seq (Sm.mono (Q := fun e L' s' => e = .normal ∧ Hp (fun _ => False) z [] [blkA p14 p14 (C4 x0 x1 x2 x3) 1, blkA p4 p4 (C4 0 0 0 0) 1] s' ∧ Sub [(4, .pointer (some ⟨p4, 0, none⟩)), (14, .pointer (some ⟨p14, 0, none⟩))] L') ?_ ?_)
    · refine Sm.seqW ?_
      conv => whnf
      refine Sm.block ?_
      refine Sm.loop ?_
      refine Lp.ofS (α := Nat) (fun k => [(4, .pointer (some ⟨p4, 0, none⟩)), (5, .pointer (some ⟨p5, 0, none⟩)), (14, .pointer (some ⟨p14, 0, none⟩)), (58, .int .i64 (k : Int))])
        (fun k s' => k ≤ 4 ∧ Hp (fun _ => False) z [] [blkA p14 p14 (wpart x0 x1 x2 x3 k) 1, blkA p5 p5 (natU [l0, l1, l2, l3, l4, l5, l6, l7]) 1, blkA p4 p4 (C4 0 0 0 0) 1] s') (fun k => 4 - k) ?_ 0 (subK_ok (by refine ⟨rfl, rfl, rfl, rfl, trivial⟩)) ⟨by decide, hp.pik (by repeat (first | exact Pik.nil | exact Pik.refl _ | exact Rm.here | apply Rm.there | apply Pik.cons | apply Pik.skip))⟩
      clear hp
      rintro k s ⟨hk, hp⟩
      have hcase : k = 0 ∨ k = 1 ∨ k = 2 ∨ k = 3 ∨ k = 4 := by omega
      rcases hcase with rfl | rfl | rfl | rfl | rfl
      · refine Sm.seqW ?_
        conv => whnf
        refine Sm.seqW ?_
        conv => whnf
        refine Br.yes rfl ?_
        conv => whnf
        refine Sm.seq (Sm.block ?_)
        refine Sm.seqW ?_
        conv => whnf
        refine Sm.ofW ?_
        conv => whnf
        refine ⟨[0, 0, 2, 6, 14, 0, 32, 96, 224, 480, 992, 2046, 4095, 8191], by decide +kernel, by decide +kernel, ?_⟩
        conv => whnf
        refine Om.of (.pointer (some ⟨p5, 0, none⟩)) rfl ?_
        conv => whnf
        refine hp.load (v := .int .u64 (l0 : Int)) (by repeat (first | exact Has.here | apply Has.there | (apply Has.swap; repeat (first | exact HasR.here | apply HasR.there)))) (by rfl) rfl rfl rfl ?_
        conv => whnf
        refine Om.of (.pointer (some ⟨p5, 1, none⟩)) rfl ?_
        conv => whnf
        refine hp.load (v := .int .u64 (l1 : Int)) (by repeat (first | exact Has.here | apply Has.there | (apply Has.swap; repeat (first | exact HasR.here | apply HasR.there)))) (by rfl) rfl rfl rfl ?_
        conv => whnf
        refine Om.of (.int .u64 (IntKind.u64.wrap ((l1 : Int) * 2 ^ 32))) rfl ?_
        conv => whnf
        rw [w0]
        refine Om.of (.pointer (some ⟨p14, 0, none⟩)) rfl ?_
        conv => whnf
        refine hp.rst.store (by repeat (first | exact Rm.here | apply Rm.there)) (by show 0 < 4; decide) rfl rfl rfl rfl ?_
        intro s1 h1 l1'
        conv => whnf
        refine hp.dkW h1 l1' ?_
        clear hp h1 l1'
        intro s hp
        conv => whnf
        refine Sm.ofW ?_
        conv => whnf
        exact ⟨1, by decide, subK_ok (by refine ⟨rfl, rfl, rfl, rfl, trivial⟩), by decide, hp.pik (by repeat (first | exact Pik.nil | exact Pik.refl _ | exact Rm.here | apply Rm.there | apply Pik.cons | apply Pik.skip))⟩
      · refine Sm.seqW ?_
        conv => whnf
        refine Sm.seqW ?_
        conv => whnf
        refine Br.yes rfl ?_
        conv => whnf
        refine Sm.seq (Sm.block ?_)
        refine Sm.seqW ?_
        conv => whnf
        refine Sm.ofW ?_
        conv => whnf
        refine ⟨[0, 0, 2, 6, 14, 0, 32, 96, 224, 480, 992, 2046, 4095, 8191], by decide +kernel, by decide +kernel, ?_⟩
        conv => whnf
        refine Om.of (.pointer (some ⟨p5, 2, none⟩)) rfl ?_
        conv => whnf
        refine hp.load (v := .int .u64 (l2 : Int)) (by repeat (first | exact Has.here | apply Has.there | (apply Has.swap; repeat (first | exact HasR.here | apply HasR.there)))) (by rfl) rfl rfl rfl ?_
        conv => whnf
        refine Om.of (.pointer (some ⟨p5, 3, none⟩)) rfl ?_
        conv => whnf
        refine hp.load (v := .int .u64 (l3 : Int)) (by repeat (first | exact Has.here | apply Has.there | (apply Has.swap; repeat (first | exact HasR.here | apply HasR.there)))) (by rfl) rfl rfl rfl ?_
        conv => whnf
        refine Om.of (.int .u64 (IntKind.u64.wrap ((l3 : Int) * 2 ^ 32))) rfl ?_
        conv => whnf
        rw [w1]
        refine Om.of (.pointer (some ⟨p14, 1, none⟩)) rfl ?_
        conv => whnf
        refine hp.rst.store (by repeat (first | exact Rm.here | apply Rm.there)) (by show 1 < 4; decide) rfl rfl rfl rfl ?_
        intro s1 h1 l1'
        conv => whnf
        refine hp.dkW h1 l1' ?_
        clear hp h1 l1'
        intro s hp
        conv => whnf
        refine Sm.ofW ?_
        conv => whnf
        exact ⟨2, by decide, subK_ok (by refine ⟨rfl, rfl, rfl, rfl, trivial⟩), by decide, hp.pik (by repeat (first | exact Pik.nil | exact Pik.refl _ | exact Rm.here | apply Rm.there | apply Pik.cons | apply Pik.skip))⟩
      · refine Sm.seqW ?_
        conv => whnf
        refine Sm.seqW ?_
        conv => whnf
        refine Br.yes rfl ?_
        conv => whnf
        refine Sm.seq (Sm.block ?_)
        refine Sm.seqW ?_
        conv => whnf
        refine Sm.ofW ?_
        conv => whnf
        refine ⟨[0, 0, 2, 6, 14, 0, 32, 96, 224, 480, 992, 2046, 4095, 8191], by decide +kernel, by decide +kernel, ?_⟩
        conv => whnf
        refine Om.of (.pointer (some ⟨p5, 4, none⟩)) rfl ?_
        conv => whnf
        refine hp.load (v := .int .u64 (l4 : Int)) (by repeat (first | exact Has.here | apply Has.there | (apply Has.swap; repeat (first | exact HasR.here | apply HasR.there)))) (by rfl) rfl rfl rfl ?_
        conv => whnf
        refine Om.of (.pointer (some ⟨p5, 5, none⟩)) rfl ?_
        conv => whnf
        refine hp.load (v := .int .u64 (l5 : Int)) (by repeat (first | exact Has.here | apply Has.there | (apply Has.swap; repeat (first | exact HasR.here | apply HasR.there)))) (by rfl) rfl rfl rfl ?_
        conv => whnf
        refine Om.of (.int .u64 (IntKind.u64.wrap ((l5 : Int) * 2 ^ 32))) rfl ?_
        conv => whnf
        rw [w2]
        refine Om.of (.pointer (some ⟨p14, 2, none⟩)) rfl ?_
        conv => whnf
        refine hp.rst.store (by repeat (first | exact Rm.here | apply Rm.there)) (by show 2 < 4; decide) rfl rfl rfl rfl ?_
        intro s1 h1 l1'
        conv => whnf
        refine hp.dkW h1 l1' ?_
        clear hp h1 l1'
        intro s hp
        conv => whnf
        refine Sm.ofW ?_
        conv => whnf
        exact ⟨3, by decide, subK_ok (by refine ⟨rfl, rfl, rfl, rfl, trivial⟩), by decide, hp.pik (by repeat (first | exact Pik.nil | exact Pik.refl _ | exact Rm.here | apply Rm.there | apply Pik.cons | apply Pik.skip))⟩
      · refine Sm.seqW ?_
        conv => whnf
        refine Sm.seqW ?_
        conv => whnf
        refine Br.yes rfl ?_
        conv => whnf
        refine Sm.seq (Sm.block ?_)
        refine Sm.seqW ?_
        conv => whnf
        refine Sm.ofW ?_
        conv => whnf
        refine ⟨[0, 0, 2, 6, 14, 0, 32, 96, 224, 480, 992, 2046, 4095, 8191], by decide +kernel, by decide +kernel, ?_⟩
        conv => whnf
        refine Om.of (.pointer (some ⟨p5, 6, none⟩)) rfl ?_
        conv => whnf
        refine hp.load (v := .int .u64 (l6 : Int)) (by repeat (first | exact Has.here | apply Has.there | (apply Has.swap; repeat (first | exact HasR.here | apply HasR.there)))) (by rfl) rfl rfl rfl ?_
        conv => whnf
        refine Om.of (.pointer (some ⟨p5, 7, none⟩)) rfl ?_
        conv => whnf
        refine hp.load (v := .int .u64 (l7 : Int)) (by repeat (first | exact Has.here | apply Has.there | (apply Has.swap; repeat (first | exact HasR.here | apply HasR.there)))) (by rfl) rfl rfl rfl ?_
        conv => whnf
        refine Om.of (.int .u64 (IntKind.u64.wrap ((l7 : Int) * 2 ^ 32))) rfl ?_
        conv => whnf
        rw [w3]
        refine Om.of (.pointer (some ⟨p14, 3, none⟩)) rfl ?_
        conv => whnf
        refine hp.rst.store (by repeat (first | exact Rm.here | apply Rm.there)) (by show 3 < 4; decide) rfl rfl rfl rfl ?_
        intro s1 h1 l1'
        conv => whnf
        refine hp.dkW h1 l1' ?_
        clear hp h1 l1'
        intro s hp
        conv => whnf
        refine Sm.ofW ?_
        conv => whnf
        exact ⟨4, by decide, subK_ok (by refine ⟨rfl, rfl, rfl, rfl, trivial⟩), by decide, hp.pik (by repeat (first | exact Pik.nil | exact Pik.refl _ | exact Rm.here | apply Rm.there | apply Pik.cons | apply Pik.skip))⟩
      · refine Sm.seqW ?_
        conv => whnf
        refine Sm.seqW ?_
        conv => whnf
        refine Br.no rfl ?_
        conv => whnf
        exact ⟨rfl, hp.pik (by repeat (first | exact Pik.nil | exact Pik.refl _ | exact Rm.here | apply Rm.there | apply Pik.cons | apply Pik.skip)), subK_ok ⟨rfl, rfl, trivial⟩⟩
    clear hp
    rintro e L' s ⟨rfl, hp, hs⟩
    refine Sm.weak _ hs ?_
    clear hs
    refine Sm.seqW ?_
    conv => whnf
    refine hp.loadA (l := C4 x0 x1 x2 x3) (by repeat (first | exact Has.here | apply Has.there | (apply Has.swap; repeat (first | exact HasR.here | apply HasR.there)))) rfl (by rfl) rfl rfl ?_
    conv => whnf
    refine hp.storeW (vs := C4 x0 x1 x2 x3) rfl (by repeat (first | exact Rm.here | apply Rm.there)) (C4_same ..) rfl rfl rfl ?_
    clear hp
    intro s hp _
    conv => whnf
    refine Sm.ofW ?_
    conv => whnf
    refine hp.loadA (l := C4 x0 x1 x2 x3) (by repeat (first | exact Has.here | apply Has.there | (apply Has.swap; repeat (first | exact HasR.here | apply HasR.there)))) rfl (by rfl) rfl rfl ?_
    conv => whnf
    exact ⟨hp.fr, rfl⟩
end Go.Ev
end

/- Decimals: powers of ten, what is right. No condition. -/
noncomputable section
namespace Go.Ev
open Go.Proofs
set_option linter.unusedVariables false
set_option maxRecDepth 100000

theorem C2_same (a b a' b' : Nat) : (C2 a b).length = (C2 a' b').length := rfl
theorem ten_lt {k : Nat} (h : k ≤ 38) : 10 ^ k < w128 := Nat.lt_of_le_of_lt (Nat.pow_le_pow_right (by decide) h) (by decide)
theorem lShort_ok {z : St} (wf : WF z) {n : Nat} (hn : n < w128) :
    Cw Tryd.prog 50 [W4 n] z fun r s' => K0 z s' ∧ r = .tuple #[W2 n, .bool true] :=
  (lShort_spec wf (Nat.lt_trans hn (by decide))).mono fun r s' ⟨h1, h2⟩ => ⟨h1, h2.trans (if_pos hn)⟩
theorem lShort_no {z : St} (wf : WF z) {n : Nat} (hn : ¬ n < w128) (h : n < w256) :
    Cw Tryd.prog 50 [W4 n] z fun r s' => K0 z s' ∧ r = .tuple #[W2 0, .bool false] :=
  (lShort_spec wf h).mono fun r s' ⟨h1, h2⟩ => ⟨h1, h2.trans (if_neg hn)⟩
theorem lTen_spec {z : St} (wf : WF z) {k : Nat} (hk : k ≤ 38) :
    Cw Tryd.prog 87 [.int .i64 (k : Int)] z fun r s' => K0 z s' ∧ r = .tuple #[W2 (10 ^ k), .bool true] := by
  have hp : Hp (fun _ => False) z [] [] z := Hp.start _ wf _ (by simp)
  refine Cw.enterS Tryd.func87 rfl rfl ?_
  refine Sm.seqW ?_
  conv => whnf
  refine hp.alloc (cs := C2 0 0) (e := 1) rfl rfl rfl rfl rfl ?_
  clear hp
  intro p2 s hp _
  conv => whnf
  refine Sm.live [0, 2, 3] ?_
  conv => whnf
  refine Sm.seq ?_
  refine Sm.seqW ?_
  conv => whnf
  have d1 : decide ((k : Int) < 0) = false := decide_eq_false (by omega)
  have d2 : decide ((k : Int) > 38) = false := decide_eq_false (by omega)
  repeat (first | (refine Br.no d1 ?_; conv => whnf) | (refine Br.no d2 ?_; conv => whnf))
  refine Sm.ofW ?_
  conv => whnf
  repeat (first | (refine Br.no d1 ?_; conv => whnf) | (refine Br.no d2 ?_; conv => whnf))
  clear d1 d2
  refine Sm.live [0, 2, 3] ?_
  conv => whnf
  refine Sm.seqW ?_
  conv => whnf
  (refine hp.call (lOf_spec hp.wf (a := 1) (by decide)) ?_; clear hp; rintro _ s rfl hp _; conv => whnf)
  refine hp.alloc (cs := C2 0 0) (e := 1) rfl rfl rfl rfl rfl ?_
  clear hp
  intro p4 s hp _
  conv => whnf
  refine hp.storeW (vs := C2 1 0) rfl (by repeat (first | exact Rm.here | apply Rm.there)) (C2_same ..) rfl rfl rfl ?_
  clear hp
  intro s hp _
  conv => whnf
  refine Sm.live [0, 2, 3, 4] ?_
  conv => whnf
  refine Sm.seq (Sm.mono (Q := fun e L' s' => e = .normal ∧ Hp (fun _ => False) z [] [blkA p4 p4 (C2 (10 ^ k % w64) (10 ^ k / w64)) 1, blkA p2 p2 (C2 0 0) 1] s' ∧ Sub [(2, .pointer (some ⟨p2, 0, none⟩)), (4, .pointer (some ⟨p4, 0, none⟩))] L') ?_ ?_)
  · refine Sm.seqW ?_
    conv => whnf
    refine Sm.block ?_
    refine Sm.loop ?_
    refine Lp.ofS (α := Nat) (fun i => [(2, .pointer (some ⟨p2, 0, none⟩)), (4, .pointer (some ⟨p4, 0, none⟩)), (13, .int .i64 (k : Int)), (14, .int .i64 (i : Int))])
      (fun i s' => i ≤ k ∧ Hp (fun _ => False) z [] [blkA p4 p4 (C2 (10 ^ i % w64) (10 ^ i / w64)) 1, blkA p2 p2 (C2 0 0) 1] s') (fun i => k - i) ?_ 0 (subK_ok (by refine ⟨rfl, rfl, rfl, rfl, trivial⟩)) ⟨Nat.zero_le _, hp.pik (by repeat (first | exact Pik.nil | exact Pik.refl _ | exact Rm.here | apply Rm.there | apply Pik.cons | apply Pik.skip))⟩
    clear hp
    rintro i s ⟨hi, hp⟩
    refine Sm.seqW ?_
    conv => whnf
    refine Sm.seqW ?_
    conv => whnf
    refine Br.mk (fun hc => ?_) (fun hc => ?_)
    · have hc : i < k := by have := of_decide_eq_true hc; omega
      have h1 := ten_lt (k := i) (by omega)
      have h2 : 10 ^ i * 10 < w128 := by rw [← Nat.pow_succ]; exact ten_lt (by omega)
      have hw1 : w128 < w256 := by decide
      conv => whnf
      refine Sm.seq (Sm.block ?_)
      refine Sm.ofW ?_
      conv => whnf
      refine ⟨[0, 0, 3, 7, 15, 31, 31, 63], by decide +kernel, by decide +kernel, ?_⟩
      conv => whnf
      refine hp.loadA (l := C2 (10 ^ i % w64) (10 ^ i / w64)) (by repeat (first | exact Has.here | apply Has.there | (apply Has.swap; repeat (first | exact HasR.here | apply HasR.there)))) rfl (by rfl) rfl rfl ?_
      conv => whnf
      (refine hp.rst.call (lOf_spec hp.rst.wf (a := 10) (by decide)) ?_; rintro _ s1 rfl h1 k1; (conv => whnf); refine hp.dkN h1 k1 ?_; clear hp h1 k1; intro s hp; conv => whnf)
      (refine hp.rst.call (lMul_spec hp.rst.wf (a := 10 ^ i) (b := 10) h1 (by decide)) ?_; rintro _ s1 rfl h1 k1; (conv => whnf); refine hp.dkN h1 k1 ?_; clear hp h1 k1; intro s hp; conv => whnf)
      (refine hp.rst.call (lShort_ok hp.rst.wf (n := 10 ^ i * 10) h2) ?_; rintro _ s1 rfl h1 k1; (conv => whnf); refine hp.dkN h1 k1 ?_; clear hp h1 k1; intro s hp; conv => whnf)
      rw [← Nat.pow_succ]
      refine hp.rst.storeW (vs := C2 (10 ^ (i + 1) % w64) (10 ^ (i + 1) / w64)) rfl (by repeat (first | exact Rm.here | apply Rm.there)) (C2_same ..) rfl rfl rfl ?_
      intro s1 h1 l1
      conv => whnf
      refine hp.dkW h1 l1 ?_
      clear hp h1 l1
      intro s hp
      conv => whnf
      refine Sm.ofW ?_
      conv => whnf
      have ei : IntKind.i64.wrap ((i : Int) + 1) = ((i + 1 : Nat) : Int) := by rw [wi64 (by omega) (by omega)]; push_cast; rfl
      exact ⟨i + 1, by (show k - (i + 1) < k - i); omega, subK_ok (by refine ⟨rfl, rfl, rfl, congrArg (fun x => some (Value.int .i64 x)) ei, trivial⟩), hc, hp.pik (by repeat (first | exact Pik.nil | exact Pik.refl _ | exact Rm.here | apply Rm.there | apply Pik.cons | apply Pik.skip))⟩
    · have hc : i = k := by have := of_decide_eq_false hc; omega
      subst hc
      conv => whnf
      exact ⟨rfl, hp, subK_ok ⟨rfl, rfl, trivial⟩⟩
  clear hp
  rintro e L' s ⟨rfl, hp, hs⟩
  refine Sm.weak _ hs ?_
  clear hs
  refine Sm.seqW ?_
  conv => whnf
  refine hp.loadA (l := C2 (10 ^ k % w64) (10 ^ k / w64)) (by repeat (first | exact Has.here | apply Has.there | (apply Has.swap; repeat (first | exact HasR.here | apply HasR.there)))) rfl (by rfl) rfl rfl ?_
  conv => whnf
  refine hp.storeW (vs := C2 (10 ^ k % w64) (10 ^ k / w64)) rfl (by repeat (first | exact Rm.here | apply Rm.there)) (C2_same ..) rfl rfl rfl ?_
  clear hp
  intro s hp _
  conv => whnf
  refine Sm.ofW ?_
  conv => whnf
  refine hp.loadA (l := C2 (10 ^ k % w64) (10 ^ k / w64)) (by repeat (first | exact Has.here | apply Has.there | (apply Has.swap; repeat (first | exact HasR.here | apply HasR.there)))) rfl (by rfl) rfl rfl ?_
  conv => whnf
  exact ⟨hp.fr, rfl⟩
theorem dten_spec {z : St} (wf : WF z) {k : Nat} (hk : k ≤ 38) :
    Cw Tryd.prog 74 [.int .i64 (k : Int)] z fun r s' => K0 z s' ∧ r = W2 (10 ^ k) := by
  have hp : Hp (fun _ => False) z [] [] z := Hp.start _ wf _ (by simp)
  refine Cw.enterS Tryd.func74 rfl rfl ?_
  refine Sm.seqW ?_
  conv => whnf
  refine hp.alloc (cs := C2 0 0) (e := 1) rfl rfl rfl rfl rfl ?_
  clear hp
  intro p2 s hp _
  conv => whnf
  refine Sm.seqW ?_
  conv => whnf
  (refine hp.call (lTen_spec hp.wf hk) ?_; clear hp; rintro _ s rfl hp _; conv => whnf)
  refine hp.alloc (cs := C2 0 0) (e := 1) rfl rfl rfl rfl rfl ?_
  clear hp
  intro p3 s hp _
  conv => whnf
  refine hp.storeW (vs := C2 (10 ^ k % w64) (10 ^ k / w64)) rfl (by repeat (first | exact Rm.here | apply Rm.there)) (C2_same ..) rfl rfl rfl ?_
  clear hp
  intro s hp _
  conv => whnf
  refine Sm.seqW ?_
  conv => whnf
  refine hp.loadA (l := C2 (10 ^ k % w64) (10 ^ k / w64)) (by repeat (first | exact Has.here | apply Has.there | (apply Has.swap; repeat (first | exact HasR.here | apply HasR.there)))) rfl (by rfl) rfl rfl ?_
  conv => whnf
  refine hp.storeW (vs := C2 (10 ^ k % w64) (10 ^ k / w64)) rfl (by repeat (first | exact Rm.here | apply Rm.there)) (C2_same ..) rfl rfl rfl ?_
  clear hp
  intro s hp _
  conv => whnf
  refine Sm.ofW ?_
  conv => whnf
  refine hp.loadA (l := C2 (10 ^ k % w64) (10 ^ k / w64)) (by repeat (first | exact Has.here | apply Has.there | (apply Has.swap; repeat (first | exact HasR.here | apply HasR.there)))) rfl (by rfl) rfl rfl ?_
  conv => whnf
  exact ⟨hp.fr, rfl⟩
theorem qten_spec {z : St} (wf : WF z) {k : Nat} (hk : k ≤ 38) :
    Cw Tryd.prog 71 [.int .i64 (k : Int)] z fun r s' => K0 z s' ∧ r = W2 (10 ^ k) := by
  have hp : Hp (fun _ => False) z [] [] z := Hp.start _ wf _ (by simp)
  refine Cw.enterS Tryd.func71 rfl rfl ?_
  refine Sm.seqW ?_
  conv => whnf
  refine hp.alloc (cs := C2 0 0) (e := 1) rfl rfl rfl rfl rfl ?_
  clear hp
  intro p2 s hp _
  conv => whnf
  refine Sm.seqW ?_
  conv => whnf
  (refine hp.call (lTen_spec hp.wf hk) ?_; clear hp; rintro _ s rfl hp _; conv => whnf)
  refine hp.alloc (cs := C2 0 0) (e := 1) rfl rfl rfl rfl rfl ?_
  clear hp
  intro p3 s hp _
  conv => whnf
  refine hp.storeW (vs := C2 (10 ^ k % w64) (10 ^ k / w64)) rfl (by repeat (first | exact Rm.here | apply Rm.there)) (C2_same ..) rfl rfl rfl ?_
  clear hp
  intro s hp _
  conv => whnf
  refine Sm.seqW ?_
  conv => whnf
  refine hp.loadA (l := C2 (10 ^ k % w64) (10 ^ k / w64)) (by repeat (first | exact Has.here | apply Has.there | (apply Has.swap; repeat (first | exact HasR.here | apply HasR.there)))) rfl (by rfl) rfl rfl ?_
  conv => whnf
  refine hp.storeW (vs := C2 (10 ^ k % w64) (10 ^ k / w64)) rfl (by repeat (first | exact Rm.here | apply Rm.there)) (C2_same ..) rfl rfl rfl ?_
  clear hp
  intro s hp _
  conv => whnf
  refine Sm.ofW ?_
  conv => whnf
  refine hp.loadA (l := C2 (10 ^ k % w64) (10 ^ k / w64)) (by repeat (first | exact Has.here | apply Has.there | (apply Has.swap; repeat (first | exact HasR.here | apply HasR.there)))) rfl (by rfl) rfl rfl ?_
  conv => whnf
  exact ⟨hp.fr, rfl⟩
/-- A number below ten to the thirtieth. -/
theorem small_spec {z : St} (wf : WF z) {n : Nat} (hn : n < w128) :
    Cw Tryd.prog 41 [W2 n] z fun r s' => K0 z s' ∧ r = .bool (decide (n < 10 ^ 30)) := by
  have hp : Hp (fun _ => False) z [] [] z := Hp.start _ wf _ (by simp)
  refine Cw.enterS Tryd.func41 rfl rfl ?_
  refine Sm.seqW ?_
  conv => whnf
  refine hp.var (cs := C2 (n % w64) (n / w64)) (e := 1) rfl rfl ?_
  clear hp
  intro p1 s hp _
  conv => whnf
  refine Sm.seqW ?_
  conv => whnf
  refine ⟨[0, 0, 3, 7, 15], by decide +kernel, by decide +kernel, ?_⟩
  conv => whnf
  refine hp.loadA (l := C2 (n % w64) (n / w64)) (by repeat (first | exact Has.here | apply Has.there | (apply Has.swap; repeat (first | exact HasR.here | apply HasR.there)))) rfl (by rfl) rfl rfl ?_
  conv => whnf
  (refine hp.rst.call (dten_spec hp.rst.wf (k := 30) (by decide)) ?_; rintro _ s1 rfl h1 k1; (conv => whnf); refine hp.dkN h1 k1 ?_; clear hp h1 k1; intro s hp; conv => whnf)
  (refine hp.rst.call (lCmp_spec hp.rst.wf (a := n) (b := 10 ^ 30) hn (ten_lt (by decide))) ?_; rintro _ s1 rfl h1 k1; (conv => whnf); refine hp.dkN h1 k1 ?_; clear hp h1 k1; intro s hp; conv => whnf)
  refine Sm.ofW ?_
  conv => whnf
  refine ⟨hp.fr, congrArg Value.bool ?_⟩
  apply decide_eq_decide.2
  unfold cmpI
  by_cases h : n < 10 ^ 30
  · rw [if_pos h]; simp [h]
  · rw [if_neg h]
    split <;> simp [h]
theorem arr_e (a b a' b' : Nat) : evEq Tryd.prog 10000 23 (A2 a b) (A2 a' b') = some (((a : Int) == (a' : Int)) && ((b : Int) == (b' : Int))) := by
  have e : ∀ p q : Bool, ((a : Int) == (a' : Int)) = p → ((b : Int) == (b' : Int)) = q → evEq Tryd.prog 10000 23 (A2 a b) (A2 a' b') = some (p && q) := by
    intro p q h1 h2
    conv => lhs; whnf
    show (match (some ((a : Int) == (a' : Int)) : Option Bool) with | some true => (match (some ((b : Int) == (b' : Int)) : Option Bool) with | some true => some true | some false => some false | none => none) | some false => some false | none => none) = _
    rw [h1, h2]
    cases p <;> cases q <;> rfl
  exact e _ _ rfl rfl
theorem arr_eq (a b a' b' : Nat) (c : Bool) : evBin Tryd.prog .eql 23 c (A2 a b) (A2 a' b') = some (.bool (((a : Int) == (a' : Int)) && ((b : Int) == (b' : Int)))) := by
  have hg : Tryd.prog.eqGuardType Tryd.prog.depth 23 = false := by decide +kernel
  show (match !(Tryd.prog.eqGuardType Tryd.prog.depth 23) with | false => none | true => (match evEq Tryd.prog 10000 23 (A2 a b) (A2 a' b') with | some b => some (Value.bool b) | none => none)) = _
  rw [hg, arr_e]; rfl
theorem arr_ne (a b a' b' : Nat) (c : Bool) : evBin Tryd.prog .neq 23 c (A2 a b) (A2 a' b') = some (.bool (!(((a : Int) == (a' : Int)) && ((b : Int) == (b' : Int))))) := by
  have hg : Tryd.prog.eqGuardType Tryd.prog.depth 23 = false := by decide +kernel
  show (match !(Tryd.prog.eqGuardType Tryd.prog.depth 23) with | false => none | true => (match evEq Tryd.prog 10000 23 (A2 a b) (A2 a' b') with | some b => some (Value.bool (!b)) | none => none)) = _
  rw [hg, arr_e]; rfl
theorem zero_iff (n : Nat) : (((n % w64 : Nat) : Int) == ((0 : Nat) : Int) && ((n / w64 : Nat) : Int) == ((0 : Nat) : Int)) = decide (n = 0) := by
  by_cases h : n = 0
  · subst h; rfl
  · rw [decide_eq_false h, Bool.and_eq_false_iff]
    by_cases h1 : n % w64 = 0
    · right
      rw [beq_eq_false_iff_ne]
      intro h2
      apply h
      have h2 : n / w64 = 0 := Int.ofNat.inj h2
      simp only [w64] at *; omega
    · left
      rw [beq_eq_false_iff_ne]
      intro h2
      exact h1 (Int.ofNat.inj h2)
theorem z_eq (n : Nat) (c : Bool) : evBin Tryd.prog .eql 23 c (W2 n) (A2 0 0) = some (.bool (decide (n = 0))) := by
  unfold W2; rw [arr_eq, zero_iff]
theorem z_ne (n : Nat) (c : Bool) : evBin Tryd.prog .neq 23 c (W2 n) (A2 0 0) = some (.bool (!decide (n = 0))) := by
  unfold W2; rw [arr_ne, zero_iff]
theorem nought_spec {z : St} (wf : WF z) (n : Nat) :
    Cw Tryd.prog 42 [W2 n] z fun r s' => K0 z s' ∧ r = .bool (decide (n = 0)) := by
  have hp : Hp (fun _ => False) z [] [] z := Hp.start _ wf _ (by simp)
  refine Cw.enterS Tryd.func42 rfl rfl ?_
  refine Sm.seqW ?_
  conv => whnf
  refine hp.var (cs := C2 (n % w64) (n / w64)) (e := 1) rfl rfl ?_
  clear hp
  intro p1 s hp _
  conv => whnf
  refine Sm.seqW ?_
  conv => whnf
  refine hp.loadA (l := C2 (n % w64) (n / w64)) (by repeat (first | exact Has.here | apply Has.there | (apply Has.swap; repeat (first | exact HasR.here | apply HasR.there)))) rfl (by rfl) rfl rfl ?_
  conv => whnf
  refine Om.of _ (z_eq n _) ?_
  conv => whnf
  refine Sm.ofW ?_
  conv => whnf
  exact ⟨hp.fr, rfl⟩
/-- A decimal. -/
structure Dc where
  neg : Bool
  c : Nat
  scale : Int
def Dc.cells (d : Dc) : List Value := [.bool d.neg, .int .u64 ((d.c % w64 : Nat) : Int), .int .u64 ((d.c / w64 : Nat) : Int), .int .i64 d.scale]
def Dc.val (d : Dc) : Value := .agg #[.bool d.neg, .int .u64 ((d.c % w64 : Nat) : Int), .int .u64 ((d.c / w64 : Nat) : Int), .int .i64 d.scale]
def Dc.right (d : Dc) : Bool := decide (d.c < 10 ^ 30) && (decide (d.scale ≥ 0) && (decide (d.scale ≤ 9) && !(d.neg && decide (d.c = 0))))
theorem right_spec {z : St} (wf : WF z) (d : Dc) (hd : d.c < w128) :
    Cw Tryd.prog 11 [d.val] z fun r s' => K0 z s' ∧ r = .bool d.right := by
  have hp : Hp (fun _ => False) z [] [] z := Hp.start _ wf _ (by simp)
  obtain ⟨ng, n, sc⟩ := d
  simp only at hd
  refine Cw.enterS Tryd.func11 rfl rfl ?_
  refine Sm.seqW ?_
  conv => whnf
  refine hp.var (cs := Dc.cells ⟨ng, n, sc⟩) (e := 4) rfl rfl ?_
  clear hp
  intro p1 s hp _
  conv => whnf
  refine Sm.live [1] ?_
  conv => whnf
  refine Sm.seqW ?_
  conv => whnf
  refine hp.loadA (off := 1) (l := C2 (n % w64) (n / w64)) (by repeat (first | exact Has.here | apply Has.there | (apply Has.swap; repeat (first | exact HasR.here | apply HasR.there)))) rfl (by rfl) rfl rfl ?_
  conv => whnf
  (refine hp.call (small_spec hp.wf hd) ?_; clear hp; rintro _ s rfl hp _; conv => whnf)
  cases h1 : decide (n < 10 ^ 30) with
  | false =>
    repeat (first | (refine Br.yes (by first | with_reducible rfl | with_reducible exact beq_self_eq_true _ | rfl) ?_; conv => whnf) | (refine Br.no (by first | with_reducible rfl | with_reducible exact bne_self_eq_false _ | rfl) ?_; conv => whnf))
    refine Sm.ofW ?_
    conv => whnf
    exact ⟨hp.fr, congrArg Value.bool (by unfold Dc.right; rw [h1]; rfl)⟩
  | true =>
    repeat (first | (refine Br.yes (by first | with_reducible rfl | with_reducible exact beq_self_eq_true _ | rfl) ?_; conv => whnf) | (refine Br.no (by first | with_reducible rfl | with_reducible exact bne_self_eq_false _ | rfl) ?_; conv => whnf))
    refine hp.load (off := 3) (v := .int .i64 sc) (by repeat (first | exact Has.here | apply Has.there | (apply Has.swap; repeat (first | exact HasR.here | apply HasR.there)))) (by rfl) rfl rfl rfl ?_
    conv => whnf
    repeat (first | (refine Br.yes (by first | with_reducible rfl | with_reducible exact beq_self_eq_true _ | rfl) ?_; conv => whnf) | (refine Br.no (by first | with_reducible rfl | with_reducible exact bne_self_eq_false _ | rfl) ?_; conv => whnf))
    cases h2 : decide (sc ≥ 0) with
    | false =>
      repeat (first | (refine Br.yes (by first | with_reducible rfl | with_reducible exact beq_self_eq_true _ | rfl) ?_; conv => whnf) | (refine Br.no (by first | with_reducible rfl | with_reducible exact bne_self_eq_false _ | rfl) ?_; conv => whnf))
      refine Sm.ofW ?_
      conv => whnf
      exact ⟨hp.fr, congrArg Value.bool (by unfold Dc.right; rw [h1, h2]; rfl)⟩
    | true =>
      repeat (first | (refine Br.yes (by first | with_reducible rfl | with_reducible exact beq_self_eq_true _ | rfl) ?_; conv => whnf) | (refine Br.no (by first | with_reducible rfl | with_reducible exact bne_self_eq_false _ | rfl) ?_; conv => whnf))
      refine hp.load (off := 3) (v := .int .i64 sc) (by repeat (first | exact Has.here | apply Has.there | (apply Has.swap; repeat (first | exact HasR.here | apply HasR.there)))) (by rfl) rfl rfl rfl ?_
      conv => whnf
      repeat (first | (refine Br.yes (by first | with_reducible rfl | with_reducible exact beq_self_eq_true _ | rfl) ?_; conv => whnf) | (refine Br.no (by first | with_reducible rfl | with_reducible exact bne_self_eq_false _ | rfl) ?_; conv => whnf))
      cases h3 : decide (sc ≤ 9) with
      | false =>
        repeat (first | (refine Br.yes (by first | with_reducible rfl | with_reducible exact beq_self_eq_true _ | rfl) ?_; conv => whnf) | (refine Br.no (by first | with_reducible rfl | with_reducible exact bne_self_eq_false _ | rfl) ?_; conv => whnf))
        refine Sm.ofW ?_
        conv => whnf
        exact ⟨hp.fr, congrArg Value.bool (by unfold Dc.right; rw [h1, h2, h3]; rfl)⟩
      | true =>
        repeat (first | (refine Br.yes (by first | with_reducible rfl | with_reducible exact beq_self_eq_true _ | rfl) ?_; conv => whnf) | (refine Br.no (by first | with_reducible rfl | with_reducible exact bne_self_eq_false _ | rfl) ?_; conv => whnf))
        refine hp.load (off := 0) (v := .bool ng) (by repeat (first | exact Has.here | apply Has.there | (apply Has.swap; repeat (first | exact HasR.here | apply HasR.there)))) (by rfl) rfl rfl rfl ?_
        conv => whnf
        cases ng with
        | false =>
          repeat (first | (refine Br.yes (by first | with_reducible rfl | with_reducible exact beq_self_eq_true _ | rfl) ?_; conv => whnf) | (refine Br.no (by first | with_reducible rfl | with_reducible exact bne_self_eq_false _ | rfl) ?_; conv => whnf))
          refine Sm.ofW ?_
          conv => whnf
          exact ⟨hp.fr, congrArg Value.bool (by unfold Dc.right; rw [h1, h2, h3]; rfl)⟩
        | true =>
          repeat (first | (refine Br.yes (by first | with_reducible rfl | with_reducible exact beq_self_eq_true _ | rfl) ?_; conv => whnf) | (refine Br.no (by first | with_reducible rfl | with_reducible exact bne_self_eq_false _ | rfl) ?_; conv => whnf))
          refine hp.loadA (off := 1) (l := C2 (n % w64) (n / w64)) (by repeat (first | exact Has.here | apply Has.there | (apply Has.swap; repeat (first | exact HasR.here | apply HasR.there)))) rfl (by rfl) rfl rfl ?_
          conv => whnf
          repeat (first | (refine Br.yes (by first | with_reducible rfl | with_reducible exact beq_self_eq_true _ | rfl) ?_; conv => whnf) | (refine Br.no (by first | with_reducible rfl | with_reducible exact bne_self_eq_false _ | rfl) ?_; conv => whnf))
          (refine hp.call (nought_spec hp.wf n) ?_; clear hp; rintro _ s rfl hp _; conv => whnf)
          repeat (first | (refine Br.yes (by first | with_reducible rfl | with_reducible exact beq_self_eq_true _ | rfl) ?_; conv => whnf) | (refine Br.no (by first | with_reducible rfl | with_reducible exact bne_self_eq_false _ | rfl) ?_; conv => whnf))
          cases h4 : decide (n = 0) with
          | false =>
            repeat (first | (refine Br.yes (by first | with_reducible rfl | with_reducible exact beq_self_eq_true _ | rfl) ?_; conv => whnf) | (refine Br.no (by first | with_reducible rfl | with_reducible exact bne_self_eq_false _ | rfl) ?_; conv => whnf))
            refine Sm.ofW ?_
            conv => whnf
            exact ⟨hp.fr, congrArg Value.bool (by unfold Dc.right; rw [h1, h2, h3, h4]; rfl)⟩
          | true =>
            repeat (first | (refine Br.yes (by first | with_reducible rfl | with_reducible exact beq_self_eq_true _ | rfl) ?_; conv => whnf) | (refine Br.no (by first | with_reducible rfl | with_reducible exact bne_self_eq_false _ | rfl) ?_; conv => whnf))
            refine Sm.ofW ?_
            conv => whnf
            exact ⟨hp.fr, congrArg Value.bool (by unfold Dc.right; rw [h1, h2, h3, h4]; rfl)⟩
end Go.Ev
end

/- Decimals: made, Neg, Sign. No condition. -/
noncomputable section
namespace Go.Ev
open Go.Proofs
set_option linter.unusedVariables false
set_option maxRecDepth 100000

def Dc.zero : Dc := ⟨false, 0, 0⟩
def okD (d : Dc) : Value := .tuple #[d.val, .int .i64 0]
def errD (e : Int) : Value := .tuple #[Dc.zero.val, .int .i64 e]
def dmade (neg : Bool) (n : Nat) (sc : Int) : Value := if n < 10 ^ 30 then okD ⟨neg && !decide (n = 0), n, sc⟩ else errD 3
theorem Dc_same (a b : Dc) : a.cells.length = b.cells.length := rfl
theorem dmade_spec {z : St} (wf : WF z) (neg : Bool) {n : Nat} (hn : n < w256) (sc : Int) :
    Cw Tryd.prog 53 [.bool neg, W4 n, .int .i64 sc] z fun r s' => K0 z s' ∧ r = dmade neg n sc := by
  have hp : Hp (fun _ => False) z [] [] z := Hp.start _ wf _ (by simp)
  refine Cw.enterS Tryd.func53 rfl rfl ?_
  refine Sm.seqW ?_
  conv => whnf
  refine hp.var (cs := C4 (n % w64) (n / w64 % w64) (n / w128 % w64) (n / w192)) (e := 1) rfl rfl ?_
  clear hp
  intro p1 s hp _
  conv => whnf
  refine hp.alloc (cs := Dc.zero.cells) (e := 4) rfl rfl rfl rfl rfl ?_
  clear hp
  intro p6 s hp _
  conv => whnf
  refine Sm.live [0, 2, 4, 6, 7] ?_
  conv => whnf
  refine Sm.seqW ?_
  conv => whnf
  refine hp.loadA (l := C4 (n % w64) (n / w64 % w64) (n / w128 % w64) (n / w192)) (by repeat (first | exact Has.here | apply Has.there | (apply Has.swap; repeat (first | exact HasR.here | apply HasR.there)))) rfl (by rfl) rfl rfl ?_
  conv => whnf
  have hbig : 10 ^ 30 < w128 := by decide
  by_cases hs : n < w128
  · (refine hp.call (lShort_ok hp.wf (n := n) hs) ?_; clear hp; rintro _ s rfl hp _; conv => whnf)
    refine hp.alloc (cs := C2 0 0) (e := 1) rfl rfl rfl rfl rfl ?_
    clear hp
    intro p8 s hp _
    conv => whnf
    refine hp.storeW (vs := C2 (n % w64) (n / w64)) rfl (by repeat (first | exact Rm.here | apply Rm.there)) (C2_same ..) rfl rfl rfl ?_
    clear hp
    intro s hp _
    conv => whnf
    refine Sm.live [0, 2, 6, 7, 8, 9] ?_
    conv => whnf
    refine Sm.seq ?_
    refine Sm.seqW ?_
    conv => whnf
    repeat (first | (refine Br.yes (by first | with_reducible rfl | with_reducible exact beq_self_eq_true _ | rfl) ?_; conv => whnf) | (refine Br.no (by first | with_reducible rfl | with_reducible exact bne_self_eq_false _ | rfl) ?_; conv => whnf))
    refine hp.loadA (l := C2 (n % w64) (n / w64)) (by repeat (first | exact Has.here | apply Has.there | (apply Has.swap; repeat (first | exact HasR.here | apply HasR.there)))) rfl (by rfl) rfl rfl ?_
    conv => whnf
    repeat (first | (refine Br.yes (by first | with_reducible rfl | with_reducible exact beq_self_eq_true _ | rfl) ?_; conv => whnf) | (refine Br.no (by first | with_reducible rfl | with_reducible exact bne_self_eq_false _ | rfl) ?_; conv => whnf))
    (refine hp.call (small_spec hp.wf hs) ?_; clear hp; rintro _ s rfl hp _; conv => whnf)
    by_cases h30 : n < 10 ^ 30
    · rw [decide_eq_true h30]
      repeat (first | (refine Br.yes (by first | with_reducible rfl | with_reducible exact beq_self_eq_true _ | rfl) ?_; conv => whnf) | (refine Br.no (by first | with_reducible rfl | with_reducible exact bne_self_eq_false _ | rfl) ?_; conv => whnf))
      refine Sm.ofW ?_
      conv => whnf
      repeat (first | (refine Br.yes (by first | with_reducible rfl | with_reducible exact beq_self_eq_true _ | rfl) ?_; conv => whnf) | (refine Br.no (by first | with_reducible rfl | with_reducible exact bne_self_eq_false _ | rfl) ?_; conv => whnf))
      refine Sm.live [0, 2, 6, 7, 8] ?_
      conv => whnf
      refine Sm.seqW ?_
      conv => whnf
      refine ⟨[0, 1, 3, 7, 15, 31, 0, 0, 255, 511, 1023], by decide +kernel, by decide +kernel, ?_⟩
      conv => whnf
      unfold dmade
      rw [if_pos h30]
      cases neg with
      | false =>
        repeat (first | (refine Br.yes (by first | with_reducible rfl | with_reducible exact beq_self_eq_true _ | rfl) ?_; conv => whnf) | (refine Br.no (by first | with_reducible rfl | with_reducible exact bne_self_eq_false _ | rfl) ?_; conv => whnf))
        refine hp.loadA (l := C2 (n % w64) (n / w64)) (by repeat (first | exact Has.here | apply Has.there | (apply Has.swap; repeat (first | exact HasR.here | apply HasR.there)))) rfl (by rfl) rfl rfl ?_
        conv => whnf
        refine hp.rst.storeW (vs := Dc.cells ⟨false && !decide (n = 0), n, sc⟩) rfl (by repeat (first | exact Rm.here | apply Rm.there)) (Dc_same _ Dc.zero) rfl rfl rfl ?_
        intro s1 h1 l1
        conv => whnf
        refine hp.dkW h1 l1 ?_
        clear hp h1 l1
        intro s hp
        conv => whnf
        refine Sm.ofW ?_
        conv => whnf
        refine hp.loadA (l := Dc.cells ⟨false && !decide (n = 0), n, sc⟩) (by repeat (first | exact Has.here | apply Has.there | (apply Has.swap; repeat (first | exact HasR.here | apply HasR.there)))) rfl (by rfl) rfl rfl ?_
        conv => whnf
        exact ⟨hp.fr, rfl⟩
      | true =>
        repeat (first | (refine Br.yes (by first | with_reducible rfl | with_reducible exact beq_self_eq_true _ | rfl) ?_; conv => whnf) | (refine Br.no (by first | with_reducible rfl | with_reducible exact bne_self_eq_false _ | rfl) ?_; conv => whnf))
        refine hp.loadA (l := C2 (n % w64) (n / w64)) (by repeat (first | exact Has.here | apply Has.there | (apply Has.swap; repeat (first | exact HasR.here | apply HasR.there)))) rfl (by rfl) rfl rfl ?_
        conv => whnf
        repeat (first | (refine Br.yes (by first | with_reducible rfl | with_reducible exact beq_self_eq_true _ | rfl) ?_; conv => whnf) | (refine Br.no (by first | with_reducible rfl | with_reducible exact bne_self_eq_false _ | rfl) ?_; conv => whnf))
        (refine hp.rst.call (nought_spec hp.rst.wf n) ?_; rintro _ s1 rfl h1 k1; (conv => whnf); refine hp.dkN h1 k1 ?_; clear hp h1 k1; intro s hp; conv => whnf)
        repeat (first | (refine Br.yes (by first | with_reducible rfl | with_reducible exact beq_self_eq_true _ | rfl) ?_; conv => whnf) | (refine Br.no (by first | with_reducible rfl | with_reducible exact bne_self_eq_false _ | rfl) ?_; conv => whnf))
        refine hp.loadA (l := C2 (n % w64) (n / w64)) (by repeat (first | exact Has.here | apply Has.there | (apply Has.swap; repeat (first | exact HasR.here | apply HasR.there)))) rfl (by rfl) rfl rfl ?_
        conv => whnf
        refine hp.rst.storeW (vs := Dc.cells ⟨true && !decide (n = 0), n, sc⟩) rfl (by repeat (first | exact Rm.here | apply Rm.there)) (Dc_same _ Dc.zero) rfl rfl rfl ?_
        intro s1 h1 l1
        conv => whnf
        refine hp.dkW h1 l1 ?_
        clear hp h1 l1
        intro s hp
        conv => whnf
        refine Sm.ofW ?_
        conv => whnf
        refine hp.loadA (l := Dc.cells ⟨true && !decide (n = 0), n, sc⟩) (by repeat (first | exact Has.here | apply Has.there | (apply Has.swap; repeat (first | exact HasR.here | apply HasR.there)))) rfl (by rfl) rfl rfl ?_
        conv => whnf
        exact ⟨hp.fr, rfl⟩
    · rw [decide_eq_false h30]
      repeat (first | (refine Br.yes (by first | with_reducible rfl | with_reducible exact beq_self_eq_true _ | rfl) ?_; conv => whnf) | (refine Br.no (by first | with_reducible rfl | with_reducible exact bne_self_eq_false _ | rfl) ?_; conv => whnf))
      refine Sm.ofW ?_
      conv => whnf
      repeat (first | (refine Br.yes (by first | with_reducible rfl | with_reducible exact beq_self_eq_true _ | rfl) ?_; conv => whnf) | (refine Br.no (by first | with_reducible rfl | with_reducible exact bne_self_eq_false _ | rfl) ?_; conv => whnf))
      unfold dmade
      rw [if_neg h30]
      refine hp.storeW (vs := Dc.zero.cells) rfl (by repeat (first | exact Rm.here | apply Rm.there)) (Dc_same _ Dc.zero) rfl rfl rfl ?_
      clear hp
      intro s hp _
      conv => whnf
      refine hp.loadA (l := Dc.zero.cells) (by repeat (first | exact Has.here | apply Has.there | (apply Has.swap; repeat (first | exact HasR.here | apply HasR.there)))) rfl (by rfl) rfl rfl ?_
      conv => whnf
      exact ⟨hp.fr, rfl⟩
  · (refine hp.call (lShort_no hp.wf (n := n) hs hn) ?_; clear hp; rintro _ s rfl hp _; conv => whnf)
    refine hp.alloc (cs := C2 0 0) (e := 1) rfl rfl rfl rfl rfl ?_
    clear hp
    intro p8 s hp _
    conv => whnf
    refine hp.storeW (vs := C2 0 0) rfl (by repeat (first | exact Rm.here | apply Rm.there)) (C2_same ..) rfl rfl rfl ?_
    clear hp
    intro s hp _
    conv => whnf
    refine Sm.live [0, 2, 6, 7, 8, 9] ?_
    conv => whnf
    refine Sm.seq ?_
    refine Sm.seqW ?_
    conv => whnf
    repeat (first | (refine Br.yes (by first | with_reducible rfl | with_reducible exact beq_self_eq_true _ | rfl) ?_; conv => whnf) | (refine Br.no (by first | with_reducible rfl | with_reducible exact bne_self_eq_false _ | rfl) ?_; conv => whnf))
    refine Sm.ofW ?_
    conv => whnf
    repeat (first | (refine Br.yes (by first | with_reducible rfl | with_reducible exact beq_self_eq_true _ | rfl) ?_; conv => whnf) | (refine Br.no (by first | with_reducible rfl | with_reducible exact bne_self_eq_false _ | rfl) ?_; conv => whnf))
    unfold dmade
    rw [if_neg (by omega)]
    refine hp.storeW (vs := Dc.zero.cells) rfl (by repeat (first | exact Rm.here | apply Rm.there)) (Dc_same _ Dc.zero) rfl rfl rfl ?_
    clear hp
    intro s hp _
    conv => whnf
    refine hp.loadA (l := Dc.zero.cells) (by repeat (first | exact Has.here | apply Has.there | (apply Has.swap; repeat (first | exact HasR.here | apply HasR.there)))) rfl (by rfl) rfl rfl ?_
    conv => whnf
    exact ⟨hp.fr, rfl⟩
end Go.Ev
end

/- Decimals: Neg, Sign, wide, Scaled. No condition. -/
noncomputable section
namespace Go.Ev
open Go.Proofs
set_option linter.unusedVariables false
set_option maxRecDepth 100000

def negF (d : Dc) : Dc := if d.right = true then ⟨!d.neg && !decide (d.c = 0), d.c, d.scale⟩ else Dc.zero
theorem dneg_spec {z : St} (wf : WF z) (d : Dc) (hd : d.c < w128) :
    Cw Tryd.prog 20 [d.val] z fun r s' => K0 z s' ∧ r = (negF d).val := by
  have hp : Hp (fun _ => False) z [] [] z := Hp.start _ wf _ (by simp)
  refine Cw.enterS Tryd.func20 rfl rfl ?_
  refine Sm.seqW ?_
  conv => whnf
  refine hp.var (cs := d.cells) (e := 4) rfl rfl ?_
  clear hp
  intro p1 s hp _
  conv => whnf
  refine hp.alloc (cs := Dc.zero.cells) (e := 4) rfl rfl rfl rfl rfl ?_
  clear hp
  intro p2 s hp _
  conv => whnf
  refine Sm.seq ?_
  refine Sm.seqW ?_
  conv => whnf
  refine hp.loadA (l := d.cells) (by repeat (first | exact Has.here | apply Has.there | (apply Has.swap; repeat (first | exact HasR.here | apply HasR.there)))) rfl (by rfl) rfl rfl ?_
  conv => whnf
  (refine hp.call (right_spec hp.wf d hd) ?_; clear hp; rintro _ s rfl hp _; conv => whnf)
  cases hr : d.right with
  | false =>
    refine Sm.ofW ?_
    conv => whnf
    repeat (first | (refine Br.yes (by first | with_reducible rfl | with_reducible exact beq_self_eq_true _ | rfl) ?_; conv => whnf) | (refine Br.no (by first | with_reducible rfl | with_reducible exact bne_self_eq_false _ | rfl) ?_; conv => whnf))
    have e : negF d = Dc.zero := by unfold negF; rw [if_neg (by rw [hr]; decide)]
    rw [e]
    refine hp.storeW (vs := Dc.zero.cells) rfl (by repeat (first | exact Rm.here | apply Rm.there)) (Dc_same _ Dc.zero) rfl rfl rfl ?_
    clear hp
    intro s hp _
    conv => whnf
    refine hp.loadA (l := Dc.zero.cells) (by repeat (first | exact Has.here | apply Has.there | (apply Has.swap; repeat (first | exact HasR.here | apply HasR.there)))) rfl (by rfl) rfl rfl ?_
    conv => whnf
    exact ⟨hp.fr, rfl⟩
  | true =>
    refine Sm.ofW ?_
    conv => whnf
    repeat (first | (refine Br.yes (by first | with_reducible rfl | with_reducible exact beq_self_eq_true _ | rfl) ?_; conv => whnf) | (refine Br.no (by first | with_reducible rfl | with_reducible exact bne_self_eq_false _ | rfl) ?_; conv => whnf))
    have e : negF d = ⟨!d.neg && !decide (d.c = 0), d.c, d.scale⟩ := by unfold negF; rw [if_pos hr]
    rw [e]
    clear e hr
    obtain ⟨ng, n, sc⟩ := d
    simp only at hd ⊢
    refine Sm.live [1, 2] ?_
    conv => whnf
    refine Sm.seqW ?_
    conv => whnf
    refine hp.load (off := 0) (v := .bool ng) (by repeat (first | exact Has.here | apply Has.there | (apply Has.swap; repeat (first | exact HasR.here | apply HasR.there)))) (by rfl) rfl rfl rfl ?_
    conv => whnf
    cases ng with
    | true =>
      repeat (first | (refine Br.yes (by first | with_reducible rfl | with_reducible exact beq_self_eq_true _ | rfl) ?_; conv => whnf) | (refine Br.no (by first | with_reducible rfl | with_reducible exact bne_self_eq_false _ | rfl) ?_; conv => whnf))
      refine hp.store (off := 0) (by repeat (first | exact Rm.here | apply Rm.there)) (by show 0 < 4; decide) rfl rfl rfl rfl ?_
      clear hp
      intro s hp _
      conv => whnf
      refine Sm.seqW ?_
      conv => whnf
      refine hp.loadA (l := Dc.cells ⟨false, n, sc⟩) (by repeat (first | exact Has.here | apply Has.there | (apply Has.swap; repeat (first | exact HasR.here | apply HasR.there)))) rfl (by rfl) rfl rfl ?_
      conv => whnf
      refine hp.storeW (vs := Dc.cells ⟨false, n, sc⟩) rfl (by repeat (first | exact Rm.here | apply Rm.there)) (Dc_same _ Dc.zero) rfl rfl rfl ?_
      clear hp
      intro s hp _
      conv => whnf
      refine Sm.ofW ?_
      conv => whnf
      refine hp.loadA (l := Dc.cells ⟨false, n, sc⟩) (by repeat (first | exact Has.here | apply Has.there | (apply Has.swap; repeat (first | exact HasR.here | apply HasR.there)))) rfl (by rfl) rfl rfl ?_
      conv => whnf
      exact ⟨hp.fr, rfl⟩
    | false =>
      repeat (first | (refine Br.yes (by first | with_reducible rfl | with_reducible exact beq_self_eq_true _ | rfl) ?_; conv => whnf) | (refine Br.no (by first | with_reducible rfl | with_reducible exact bne_self_eq_false _ | rfl) ?_; conv => whnf))
      refine hp.loadA (off := 1) (l := C2 (n % w64) (n / w64)) (by repeat (first | exact Has.here | apply Has.there | (apply Has.swap; repeat (first | exact HasR.here | apply HasR.there)))) rfl (by rfl) rfl rfl ?_
      conv => whnf
      repeat (first | (refine Br.yes (by first | with_reducible rfl | with_reducible exact beq_self_eq_true _ | rfl) ?_; conv => whnf) | (refine Br.no (by first | with_reducible rfl | with_reducible exact bne_self_eq_false _ | rfl) ?_; conv => whnf))
      (refine hp.call (nought_spec hp.wf n) ?_; clear hp; rintro _ s rfl hp _; conv => whnf)
      repeat (first | (refine Br.yes (by first | with_reducible rfl | with_reducible exact beq_self_eq_true _ | rfl) ?_; conv => whnf) | (refine Br.no (by first | with_reducible rfl | with_reducible exact bne_self_eq_false _ | rfl) ?_; conv => whnf))
      refine hp.store (off := 0) (by repeat (first | exact Rm.here | apply Rm.there)) (by show 0 < 4; decide) rfl rfl rfl rfl ?_
      clear hp
      intro s hp _
      conv => whnf
      refine Sm.seqW ?_
      conv => whnf
      refine hp.loadA (l := Dc.cells ⟨!decide (n = 0), n, sc⟩) (by repeat (first | exact Has.here | apply Has.there | (apply Has.swap; repeat (first | exact HasR.here | apply HasR.there)))) rfl (by rfl) rfl rfl ?_
      conv => whnf
      refine hp.storeW (vs := Dc.cells ⟨!decide (n = 0), n, sc⟩) rfl (by repeat (first | exact Rm.here | apply Rm.there)) (Dc_same _ Dc.zero) rfl rfl rfl ?_
      clear hp
      intro s hp _
      conv => whnf
      refine Sm.ofW ?_
      conv => whnf
      refine hp.loadA (l := Dc.cells ⟨!decide (n = 0), n, sc⟩) (by repeat (first | exact Has.here | apply Has.there | (apply Has.swap; repeat (first | exact HasR.here | apply HasR.there)))) rfl (by rfl) rfl rfl ?_
      conv => whnf
      exact ⟨hp.fr, rfl⟩
def signF (d : Dc) : Int := if d.right = false ∨ d.c = 0 then 0 else if d.neg = true then -1 else 1
theorem dsign_spec {z : St} (wf : WF z) (d : Dc) (hd : d.c < w128) :
    Cw Tryd.prog 18 [d.val] z fun r s' => K0 z s' ∧ r = .int .i64 (signF d) := by
  have hp : Hp (fun _ => False) z [] [] z := Hp.start _ wf _ (by simp)
  refine Cw.enterS Tryd.func18 rfl rfl ?_
  refine Sm.seqW ?_
  conv => whnf
  refine hp.var (cs := d.cells) (e := 4) rfl rfl ?_
  clear hp
  intro p1 s hp _
  conv => whnf
  refine Sm.seq (Sm.block ?_)
  refine Sm.seqW ?_
  conv => whnf
  refine hp.loadA (l := d.cells) (by repeat (first | exact Has.here | apply Has.there | (apply Has.swap; repeat (first | exact HasR.here | apply HasR.there)))) rfl (by rfl) rfl rfl ?_
  conv => whnf
  (refine hp.call (right_spec hp.wf d hd) ?_; clear hp; rintro _ s rfl hp _; conv => whnf)
  cases hr : d.right with
  | false =>
    repeat (first | (refine Br.yes (by first | with_reducible rfl | with_reducible exact beq_self_eq_true _ | rfl) ?_; conv => whnf) | (refine Br.no (by first | with_reducible rfl | with_reducible exact bne_self_eq_false _ | rfl) ?_; conv => whnf))
    refine Sm.ofW ?_
    conv => whnf
    repeat (first | (refine Br.yes (by first | with_reducible rfl | with_reducible exact beq_self_eq_true _ | rfl) ?_; conv => whnf) | (refine Br.no (by first | with_reducible rfl | with_reducible exact bne_self_eq_false _ | rfl) ?_; conv => whnf))
    exact ⟨hp.fr, congrArg (Value.int .i64) (by unfold signF; rw [if_pos (.inl hr)])⟩
  | true =>
    obtain ⟨ng, n, sc⟩ := d
    simp only at hd
    repeat (first | (refine Br.yes (by first | with_reducible rfl | with_reducible exact beq_self_eq_true _ | rfl) ?_; conv => whnf) | (refine Br.no (by first | with_reducible rfl | with_reducible exact bne_self_eq_false _ | rfl) ?_; conv => whnf))
    refine hp.loadA (off := 1) (l := C2 (n % w64) (n / w64)) (by repeat (first | exact Has.here | apply Has.there | (apply Has.swap; repeat (first | exact HasR.here | apply HasR.there)))) rfl (by rfl) rfl rfl ?_
    conv => whnf
    repeat (first | (refine Br.yes (by first | with_reducible rfl | with_reducible exact beq_self_eq_true _ | rfl) ?_; conv => whnf) | (refine Br.no (by first | with_reducible rfl | with_reducible exact bne_self_eq_false _ | rfl) ?_; conv => whnf))
    (refine hp.call (nought_spec hp.wf n) ?_; clear hp; rintro _ s rfl hp _; conv => whnf)
    by_cases hn : n = 0
    · rw [decide_eq_true hn]
      repeat (first | (refine Br.yes (by first | with_reducible rfl | with_reducible exact beq_self_eq_true _ | rfl) ?_; conv => whnf) | (refine Br.no (by first | with_reducible rfl | with_reducible exact bne_self_eq_false _ | rfl) ?_; conv => whnf))
      refine Sm.ofW ?_
      conv => whnf
      repeat (first | (refine Br.yes (by first | with_reducible rfl | with_reducible exact beq_self_eq_true _ | rfl) ?_; conv => whnf) | (refine Br.no (by first | with_reducible rfl | with_reducible exact bne_self_eq_false _ | rfl) ?_; conv => whnf))
      exact ⟨hp.fr, congrArg (Value.int .i64) (by unfold signF; rw [if_pos (.inr hn)])⟩
    · rw [decide_eq_false hn]
      repeat (first | (refine Br.yes (by first | with_reducible rfl | with_reducible exact beq_self_eq_true _ | rfl) ?_; conv => whnf) | (refine Br.no (by first | with_reducible rfl | with_reducible exact bne_self_eq_false _ | rfl) ?_; conv => whnf))
      refine Sm.ofW ?_
      conv => whnf
      repeat (first | (refine Br.yes (by first | with_reducible rfl | with_reducible exact beq_self_eq_true _ | rfl) ?_; conv => whnf) | (refine Br.no (by first | with_reducible rfl | with_reducible exact bne_self_eq_false _ | rfl) ?_; conv => whnf))
      refine hp.load (off := 0) (v := .bool ng) (by repeat (first | exact Has.here | apply Has.there | (apply Has.swap; repeat (first | exact HasR.here | apply HasR.there)))) (by rfl) rfl rfl rfl ?_
      conv => whnf
      cases ng with
      | true =>
        repeat (first | (refine Br.yes (by first | with_reducible rfl | with_reducible exact beq_self_eq_true _ | rfl) ?_; conv => whnf) | (refine Br.no (by first | with_reducible rfl | with_reducible exact bne_self_eq_false _ | rfl) ?_; conv => whnf))
        exact ⟨hp.fr, congrArg (Value.int .i64) (by unfold signF; rw [if_neg (by rw [hr]; simp [hn]), if_pos rfl])⟩
      | false =>
        repeat (first | (refine Br.yes (by first | with_reducible rfl | with_reducible exact beq_self_eq_true _ | rfl) ?_; conv => whnf) | (refine Br.no (by first | with_reducible rfl | with_reducible exact bne_self_eq_false _ | rfl) ?_; conv => whnf))
        refine Sm.ofW ?_
        conv => whnf
        exact ⟨hp.fr, congrArg (Value.int .i64) (by unfold signF; rw [if_neg (by rw [hr]; simp [hn]), if_neg (by simp)])⟩
theorem dwide_spec {z : St} (wf : WF z) (d : Dc) (hd : d.c < w128) {k : Nat} (hk : k ≤ 38) {sc : Int} (hsc : sc = d.scale + k) (h1 : inR d.scale) :
    Cw Tryd.prog 54 [d.val, .int .i64 sc] z fun r s' => K0 z s' ∧ r = W4 (d.c * 10 ^ k) := by
  have hp : Hp (fun _ => False) z [] [] z := Hp.start _ wf _ (by simp)
  obtain ⟨ng, n, e⟩ := d
  simp only at hd hsc h1 ⊢
  subst hsc
  have ee : IntKind.i64.wrap (e + (k : Int) - e) = (k : Int) := by rw [wi64 (by omega) (by omega)]; omega
  refine Cw.enterS Tryd.func54 rfl rfl ?_
  refine Sm.seqW ?_
  conv => whnf
  refine hp.var (cs := Dc.cells ⟨ng, n, e⟩) (e := 4) rfl rfl ?_
  clear hp
  intro p1 s hp _
  conv => whnf
  refine hp.alloc (cs := C4 0 0 0 0) (e := 1) rfl rfl rfl rfl rfl ?_
  clear hp
  intro p4 s hp _
  conv => whnf
  refine Sm.live [1, 2, 4] ?_
  conv => whnf
  refine Sm.seqW ?_
  conv => whnf
  refine ⟨[0, 1, 0, 0, 8, 28, 60, 127, 255], by decide +kernel, by decide +kernel, ?_⟩
  conv => whnf
  refine hp.loadA (off := 1) (l := C2 (n % w64) (n / w64)) (by repeat (first | exact Has.here | apply Has.there | (apply Has.swap; repeat (first | exact HasR.here | apply HasR.there)))) rfl (by rfl) rfl rfl ?_
  conv => whnf
  refine hp.load (off := 3) (v := .int .i64 e) (by repeat (first | exact Has.here | apply Has.there | (apply Has.swap; repeat (first | exact HasR.here | apply HasR.there)))) (by rfl) rfl rfl rfl ?_
  conv => whnf
  rw [ee]
  (refine hp.rst.call (dten_spec hp.rst.wf hk) ?_; rintro _ s1 rfl h1 k1; (conv => whnf); refine hp.dkN h1 k1 ?_; clear hp h1 k1; intro s hp; conv => whnf)
  (refine hp.rst.call (lMul_spec hp.rst.wf (a := n) (b := 10 ^ k) hd (ten_lt hk)) ?_; rintro _ s1 rfl h1 k1; (conv => whnf); refine hp.dkN h1 k1 ?_; clear hp h1 k1; intro s hp; conv => whnf)
  generalize n * 10 ^ k = N
  refine hp.rst.storeW (vs := C4 (N % w64) (N / w64 % w64) (N / w128 % w64) (N / w192)) rfl (by repeat (first | exact Rm.here | apply Rm.there)) (C4_same ..) rfl rfl rfl ?_
  intro s1 h1 l1
  conv => whnf
  refine hp.dkW h1 l1 ?_
  clear hp h1 l1
  intro s hp
  conv => whnf
  refine Sm.ofW ?_
  conv => whnf
  refine hp.loadA (l := C4 (N % w64) (N / w64 % w64) (N / w128 % w64) (N / w192)) (by repeat (first | exact Has.here | apply Has.there | (apply Has.swap; repeat (first | exact HasR.here | apply HasR.there)))) rfl (by rfl) rfl rfl ?_
  conv => whnf
  exact ⟨hp.fr, rfl⟩
end Go.Ev
end

/- Decimals: Scaled; what is nearer, what is farther. No condition. -/
noncomputable section
namespace Go.Ev
open Go.Proofs
set_option linter.unusedVariables false
set_option maxRecDepth 100000

theorem Dc.right_c {d : Dc} (h : d.right = true) : d.c < 10 ^ 30 ∧ 0 ≤ d.scale ∧ d.scale ≤ 9 := by
  unfold Dc.right at h
  simp only [Bool.and_eq_true, decide_eq_true_eq] at h
  exact ⟨h.1, h.2.1, h.2.2.1⟩
def scaledF (d : Dc) (sc : Int) : Value := if d.right = false ∨ sc < d.scale ∨ 9 < sc then errD 1 else dmade d.neg (d.c * 10 ^ (sc - d.scale).toNat) sc
theorem okD_shape (d : Dc) : okD d = .tuple #[.agg d.cells.toArray, .int .i64 0] := rfl
theorem dmade_shape (neg : Bool) (n : Nat) (sc : Int) : ∃ (d : Dc) (e : Int), dmade neg n sc = .tuple #[d.val, .int .i64 e] := by
  unfold dmade
  split
  · exact ⟨_, _, rfl⟩
  · exact ⟨_, _, rfl⟩
theorem dscaled_spec {z : St} (wf : WF z) (d : Dc) (hd : d.c < w128) (sc : Int) :
    Cw Tryd.prog 16 [d.val, .int .i64 sc] z fun r s' => K0 z s' ∧ r = scaledF d sc := by
  have hp : Hp (fun _ => False) z [] [] z := Hp.start _ wf _ (by simp)
  have hno : ∀ (p2 p4 : Nat) (s : St), Hp (fun _ => False) z [] [blkA p4 p4 Dc.zero.cells 4, blkA p2 p2 d.cells 4] s → True := fun _ _ _ _ => trivial
  refine Cw.enterS Tryd.func16 rfl rfl ?_
  refine Sm.seqW ?_
  conv => whnf
  refine hp.var (cs := d.cells) (e := 4) rfl rfl ?_
  clear hp
  intro p2 s hp _
  conv => whnf
  refine hp.alloc (cs := Dc.zero.cells) (e := 4) rfl rfl rfl rfl rfl ?_
  clear hp
  intro p4 s hp _
  conv => whnf
  refine Sm.live [1, 2, 4, 5] ?_
  conv => whnf
  refine Sm.seq ?_
  refine Sm.seqC (fun e L' s' => e = .normal ∧ Hp (fun _ => False) z [] [blkA p4 p4 Dc.zero.cells 4, blkA p2 p2 d.cells 4] s' ∧ Sub [(1, .int .i64 sc), (2, .pointer (some ⟨p2, 0, none⟩)), (4, .pointer (some ⟨p4, 0, none⟩)), (18, .bool (decide (d.right = false ∨ sc < d.scale ∨ 9 < sc)))] L') ?_ ?_
  · conv => whnf
    refine hp.loadA (l := d.cells) (by repeat (first | exact Has.here | apply Has.there | (apply Has.swap; repeat (first | exact HasR.here | apply HasR.there)))) rfl (by rfl) rfl rfl ?_
    conv => whnf
    (refine hp.call (right_spec hp.wf d hd) ?_; clear hp; rintro _ s rfl hp _; conv => whnf)
    cases hr : d.right with
    | false =>
      repeat (first | (refine Br.yes (by first | with_reducible rfl | with_reducible exact beq_self_eq_true _ | rfl) ?_; conv => whnf) | (refine Br.no (by first | with_reducible rfl | with_reducible exact bne_self_eq_false _ | rfl) ?_; conv => whnf))
      exact ⟨rfl, hp, subK_ok ⟨rfl, rfl, rfl, congrArg (fun x => some (Value.bool x)) (by simp), trivial⟩⟩
    | true =>
      obtain ⟨ng, n, e⟩ := d
      repeat (first | (refine Br.yes (by first | with_reducible rfl | with_reducible exact beq_self_eq_true _ | rfl) ?_; conv => whnf) | (refine Br.no (by first | with_reducible rfl | with_reducible exact bne_self_eq_false _ | rfl) ?_; conv => whnf))
      refine hp.load (off := 3) (v := .int .i64 e) (by repeat (first | exact Has.here | apply Has.there | (apply Has.swap; repeat (first | exact HasR.here | apply HasR.there)))) (by rfl) rfl rfl rfl ?_
      conv => whnf
      repeat (first | (refine Br.yes (by first | with_reducible rfl | with_reducible exact beq_self_eq_true _ | rfl) ?_; conv => whnf) | (refine Br.no (by first | with_reducible rfl | with_reducible exact bne_self_eq_false _ | rfl) ?_; conv => whnf))
      by_cases c1 : sc < e
      · rw [decide_eq_true c1]
        repeat (first | (refine Br.yes (by first | with_reducible rfl | with_reducible exact beq_self_eq_true _ | rfl) ?_; conv => whnf) | (refine Br.no (by first | with_reducible rfl | with_reducible exact bne_self_eq_false _ | rfl) ?_; conv => whnf))
        exact ⟨rfl, hp, subK_ok ⟨rfl, rfl, rfl, congrArg (fun x => some (Value.bool x)) (by simp [c1]), trivial⟩⟩
      · rw [decide_eq_false c1]
        repeat (first | (refine Br.yes (by first | with_reducible rfl | with_reducible exact beq_self_eq_true _ | rfl) ?_; conv => whnf) | (refine Br.no (by first | with_reducible rfl | with_reducible exact bne_self_eq_false _ | rfl) ?_; conv => whnf))
        exact ⟨rfl, hp, subK_ok ⟨rfl, rfl, rfl, congrArg (fun x => some (Value.bool x)) (by simp [c1]), trivial⟩⟩
  clear hp
  rintro e L' s ⟨rfl, hp, hs⟩
  refine Sm.weak _ hs ?_
  clear hs
  refine Sm.ofW ?_
  conv => whnf
  by_cases hc : d.right = false ∨ sc < d.scale ∨ 9 < sc
  · rw [decide_eq_true hc]
    repeat (first | (refine Br.yes (by first | with_reducible rfl | with_reducible exact beq_self_eq_true _ | rfl) ?_; conv => whnf) | (refine Br.no (by first | with_reducible rfl | with_reducible exact bne_self_eq_false _ | rfl) ?_; conv => whnf))
    unfold scaledF
    rw [if_pos hc]
    refine hp.storeW (vs := Dc.zero.cells) rfl (by repeat (first | exact Rm.here | apply Rm.there)) (Dc_same _ Dc.zero) rfl rfl rfl ?_
    clear hp
    intro s hp _
    conv => whnf
    refine hp.loadA (l := Dc.zero.cells) (by repeat (first | exact Has.here | apply Has.there | (apply Has.swap; repeat (first | exact HasR.here | apply HasR.there)))) rfl (by rfl) rfl rfl ?_
    conv => whnf
    exact ⟨hp.fr, rfl⟩
  · rw [decide_eq_false hc]
    repeat (first | (refine Br.yes (by first | with_reducible rfl | with_reducible exact beq_self_eq_true _ | rfl) ?_; conv => whnf) | (refine Br.no (by first | with_reducible rfl | with_reducible exact bne_self_eq_false _ | rfl) ?_; conv => whnf))
    unfold scaledF
    rw [if_neg hc]
    have hr : d.right = true := by
      cases h : d.right with
      | true => rfl
      | false => exact absurd (.inl h) hc
    have hrc := Dc.right_c hr
    have hsc : ¬ sc < d.scale ∧ ¬ 9 < sc := ⟨fun h => hc (.inr (.inl h)), fun h => hc (.inr (.inr h))⟩
    obtain ⟨k, hk⟩ : ∃ k : Nat, (sc - d.scale).toNat = k := ⟨_, rfl⟩
    rw [hk]
    have hk1 : sc = d.scale + k := by omega
    have hk2 : k ≤ 9 := by omega
    clear hr hc
    obtain ⟨ng, n, e⟩ := d
    simp only at hrc hsc hk1 hd ⊢
    have hN : n * 10 ^ k < w256 := Nat.lt_of_lt_of_le (Nat.mul_lt_mul'' hd (ten_lt (k := k) (by omega))) (by decide)
    refine Sm.live [1, 2, 4] ?_
    conv => whnf
    refine Sm.seqW ?_
    conv => whnf
    refine ⟨[0, 1, 0, 0, 12, 0, 63, 127, 127, 511, 1023], by decide +kernel, by decide +kernel, ?_⟩
    conv => whnf
    refine hp.load (off := 0) (v := .bool ng) (by repeat (first | exact Has.here | apply Has.there | (apply Has.swap; repeat (first | exact HasR.here | apply HasR.there)))) (by rfl) rfl rfl rfl ?_
    conv => whnf
    refine hp.loadA (l := Dc.cells ⟨ng, n, e⟩) (by repeat (first | exact Has.here | apply Has.there | (apply Has.swap; repeat (first | exact HasR.here | apply HasR.there)))) rfl (by rfl) rfl rfl ?_
    conv => whnf
    (refine hp.rst.call (dwide_spec hp.rst.wf ⟨ng, n, e⟩ hd (k := k) (by omega) hk1 (by unfold inR; simp only; omega)) ?_; rintro _ s1 rfl h1 k1; (conv => whnf); refine hp.dkN h1 k1 ?_; clear hp h1 k1; intro s hp; conv => whnf)
    (refine hp.rst.call (dmade_spec hp.rst.wf ng hN sc) ?_; rintro _ s1 rfl h1 k1; (conv => whnf); refine hp.dkN h1 k1 ?_; clear hp h1 k1; intro s hp; conv => whnf)
    obtain ⟨d2, e2, hd2⟩ := dmade_shape ng (n * 10 ^ k) sc
    rw [hd2]
    conv => whnf
    refine hp.rst.storeW (vs := d2.cells) rfl (by repeat (first | exact Rm.here | apply Rm.there)) (Dc_same _ Dc.zero) rfl rfl rfl ?_
    intro s1 h1 l1
    conv => whnf
    refine hp.dkW h1 l1 ?_
    clear hp h1 l1
    intro s hp
    conv => whnf
    refine Sm.ofW ?_
    conv => whnf
    refine hp.loadA (l := d2.cells) (by repeat (first | exact Has.here | apply Has.there | (apply Has.swap; repeat (first | exact HasR.here | apply HasR.there)))) rfl (by rfl) rfl rfl ?_
    conv => whnf
    exact ⟨hp.fr, rfl⟩
theorem lSub_ok {z : St} (wf : WF z) {a b : Nat} (ha : a < w128) (hb : b < w128) (h : b ≤ a) :
    Cw Tryd.prog 83 [W2 a, W2 b] z fun r s' => K0 z s' ∧ r = .tuple #[W2 (a - b), .bool true] :=
  (lSub_spec wf ha hb).mono fun r s' ⟨h1, h2⟩ => ⟨h1, h2.trans (if_pos h)⟩
/-- Twice a remainder against the divisor. -/
theorem middle_spec {z : St} (wf : WF z) {r b : Nat} (hr : r < b) (hb : b < w128) :
    Cw Tryd.prog 99 [W2 r, W2 b] z fun v s' => K0 z s' ∧ v = .int .i64 (cmpI r (b - r)) := by
  have hp : Hp (fun _ => False) z [] [] z := Hp.start _ wf _ (by simp)
  have hr2 : r < w128 := by omega
  refine Cw.enterS Tryd.func99 rfl rfl ?_
  refine Sm.seqW ?_
  conv => whnf
  refine hp.var (cs := C2 (r % w64) (r / w64)) (e := 1) rfl rfl ?_
  clear hp
  intro p2 s hp _
  conv => whnf
  refine hp.var (cs := C2 (b % w64) (b / w64)) (e := 1) rfl rfl ?_
  clear hp
  intro p3 s hp _
  conv => whnf
  refine Sm.live [2, 3] ?_
  conv => whnf
  refine Sm.seqW ?_
  conv => whnf
  refine hp.loadA (l := C2 (b % w64) (b / w64)) (by repeat (first | exact Has.here | apply Has.there | (apply Has.swap; repeat (first | exact HasR.here | apply HasR.there)))) rfl (by rfl) rfl rfl ?_
  conv => whnf
  refine hp.loadA (l := C2 (r % w64) (r / w64)) (by repeat (first | exact Has.here | apply Has.there | (apply Has.swap; repeat (first | exact HasR.here | apply HasR.there)))) rfl (by rfl) rfl rfl ?_
  conv => whnf
  (refine hp.call (lSub_ok hp.wf (a := b) (b := r) hb hr2 (by omega)) ?_; clear hp; rintro _ s rfl hp _; conv => whnf)
  refine hp.alloc (cs := C2 0 0) (e := 1) rfl rfl rfl rfl rfl ?_
  clear hp
  intro p5 s hp _
  conv => whnf
  refine hp.storeW (vs := C2 ((b - r) % w64) ((b - r) / w64)) rfl (by repeat (first | exact Rm.here | apply Rm.there)) (C2_same ..) rfl rfl rfl ?_
  clear hp
  intro s hp _
  conv => whnf
  refine Sm.live [2, 5] ?_
  conv => whnf
  refine Sm.seqW ?_
  conv => whnf
  refine hp.loadA (l := C2 (r % w64) (r / w64)) (by repeat (first | exact Has.here | apply Has.there | (apply Has.swap; repeat (first | exact HasR.here | apply HasR.there)))) rfl (by rfl) rfl rfl ?_
  conv => whnf
  refine hp.loadA (l := C2 ((b - r) % w64) ((b - r) / w64)) (by repeat (first | exact Has.here | apply Has.there | (apply Has.swap; repeat (first | exact HasR.here | apply HasR.there)))) rfl (by rfl) rfl rfl ?_
  conv => whnf
  (refine hp.call (lCmp_spec hp.wf (a := r) (b := b - r) hr2 (by omega)) ?_; clear hp; rintro _ s rfl hp _; conv => whnf)
  refine Sm.ofW ?_
  conv => whnf
  exact ⟨hp.fr, rfl⟩
end Go.Ev
end

/- A long division, bit by bit, without a program. No condition. -/
noncomputable section
namespace Go.Ev
open Go.Proofs
set_option linter.unusedVariables false
set_option maxRecDepth 100000

theorem div_step {N b bit : Nat} (hb : 0 < b) (hbit : bit ≤ 1) : (2 * N + bit) / b = 2 * (N / b) + (if b ≤ 2 * (N % b) + bit then 1 else 0) ∧ (2 * N + bit) % b = if b ≤ 2 * (N % b) + bit then 2 * (N % b) + bit - b else 2 * (N % b) + bit := by
  have h1 := Nat.div_add_mod N b
  have h2 := Nat.mod_lt N hb
  have e : 2 * N + bit = (2 * (N % b) + bit) + b * (2 * (N / b)) := by
    have : b * (2 * (N / b)) = 2 * (b * (N / b)) := by rw [Nat.mul_left_comm]
    rw [this]
    generalize b * (N / b) = q at h1 ⊢
    omega
  rw [e, Nat.add_mul_div_left _ _ hb, Nat.add_mul_mod_self_left]
  have hx : 2 * (N % b) + bit < 2 * b := by omega
  clear e h1 h2
  generalize 2 * (N % b) + bit = x at *
  by_cases h : b ≤ x
  · rw [if_pos h, if_pos h]
    have : x / b = 1 := by
      rw [Nat.div_eq_sub_div hb h, Nat.div_eq_of_lt (by omega)]
    rw [this, Nat.mod_eq_sub_mod h, Nat.mod_eq_of_lt (by omega)]
    omega
  · rw [if_neg h, if_neg h, Nat.div_eq_of_lt (by omega), Nat.mod_eq_of_lt (by omega)]
    omega
/-- A word of a number. -/
def wd (Q i : Nat) : Nat := Q / 2 ^ (64 * i) % 2 ^ 64
def ws (Q : Nat) : List Nat := [wd Q 0, wd Q 1, wd Q 2, wd Q 3]
theorem wd_lt (Q i : Nat) : wd Q i < w64 := Nat.mod_lt _ (by decide)
theorem wd_or (x y i : Nat) : wd (x ||| y) i = wd x i ||| wd y i := by
  apply Nat.eq_of_testBit_eq
  intro n
  simp only [wd, Nat.testBit_mod_two_pow, Nat.testBit_div_two_pow, Nat.testBit_or]
  cases decide (n < 64) <;> simp
theorem wd_pow (j i : Nat) : wd (2 ^ j) i = if i = j / 64 then 2 ^ (j % 64) else 0 := by
  apply Nat.eq_of_testBit_eq
  intro n
  simp only [wd, Nat.testBit_mod_two_pow, Nat.testBit_div_two_pow, Nat.testBit_two_pow]
  by_cases hn : n < 64
  · by_cases h : i = j / 64
    · rw [if_pos h, Nat.testBit_two_pow]
      simp only [hn, decide_true, Bool.true_and]
      apply decide_eq_decide.2
      omega
    · rw [if_neg h, Nat.zero_testBit]
      simp only [hn, decide_true, Bool.true_and]
      apply decide_eq_false
      omega
  · have : decide (n < 64) = false := decide_eq_false hn
    rw [this, Bool.false_and]
    split
    · rw [Nat.testBit_two_pow]
      symm
      apply decide_eq_false
      omega
    · rw [Nat.zero_testBit]
theorem ws_bit (M j : Nat) (hj : j < 256) : ws (M * 2 ^ (j + 1) + 2 ^ j) = (ws (M * 2 ^ (j + 1))).set (j / 64) (wd (M * 2 ^ (j + 1)) (j / 64) ||| 2 ^ (j % 64)) := by
  have e : M * 2 ^ (j + 1) + 2 ^ j = (M * 2 ^ (j + 1)) ||| 2 ^ j := by
    have := or_shift (a := 2 ^ j) (b := M) (k := j + 1) (Nat.pow_lt_pow_right (by decide) (by omega))
    rw [Nat.or_comm, this, Nat.add_comm]
  rw [e]
  have hi : j / 64 < 4 := by omega
  unfold ws
  simp only [wd_or, wd_pow]
  generalize j / 64 = i at hi
  generalize M * 2 ^ (j + 1) = Q
  have hc : i = 0 ∨ i = 1 ∨ i = 2 ∨ i = 3 := by omega
  rcases hc with rfl | rfl | rfl | rfl <;> simp
theorem wd_bit (a j : Nat) : wd a (j / 64) / 2 ^ (j % 64) % 2 = a / 2 ^ j % 2 := by
  rw [← Nat.toNat_testBit, ← Nat.toNat_testBit]
  congr 1
  simp only [wd, Nat.testBit_mod_two_pow, Nat.testBit_div_two_pow]
  have h : j % 64 < 64 := Nat.mod_lt _ (by decide)
  simp only [h, decide_true, Bool.true_and]
  congr 1
  omega
theorem ws_get (Q i : Nat) (hi : i < 4) : ∃ h : i < (ws Q).length, (ws Q)[i] = wd Q i := by
  refine ⟨hi, ?_⟩
  have hc : i = 0 ∨ i = 1 ∨ i = 2 ∨ i = 3 := by omega
  rcases hc with rfl | rfl | rfl | rfl <;> rfl
theorem w4_ws {Q : Nat} (h : Q < w256) : (C4 (Q % w64) (Q / w64 % w64) (Q / w128 % w64) (Q / w192)) = natU (ws Q) := by
  have e0 : wd Q 0 = Q % w64 := by
    unfold wd; rw [show (2 : Nat) ^ (64 * 0) = 1 by decide, show (2 : Nat) ^ 64 = w64 by decide, Nat.div_one]
  have e1 : wd Q 1 = Q / w64 % w64 := by
    unfold wd; rw [show (2 : Nat) ^ (64 * 1) = w64 by decide]
  have e2 : wd Q 2 = Q / w128 % w64 := by
    unfold wd; rw [show (2 : Nat) ^ (64 * 2) = w128 by decide, show (2 : Nat) ^ 64 = w64 by decide]
  have e3 : wd Q 3 = Q / w192 := by
    unfold wd; rw [show (2 : Nat) ^ (64 * 3) = w192 by decide, show (2 : Nat) ^ 64 = w64 by decide]
    apply Nat.mod_eq_of_lt
    rw [Nat.div_lt_iff_lt_mul (by decide), show w64 * w192 = w256 by decide]
    exact h
  unfold ws natU C4
  simp only [List.map_cons, List.map_nil, e0, e1, e2, e3]
theorem shl_u64 {P : Program} {t : TypeId} {c : Bool} (x n : Nat) (hn : n < 64) : evBin P .shl t c (.int .u64 (x : Int)) (.int .i64 (n : Int)) = some (.int .u64 ((x * 2 ^ n % w64 : Nat) : Int)) := by
  show (match decide ((n : Int) < 0) with
    | true => none
    | false => some (Value.int .u64 (IntKind.u64.wrap ((x : Int) * 2 ^ (min (n : Int).toNat 64))))) = _
  rw [decide_eq_false (by omega)]
  simp only [Int.toNat_natCast, Nat.min_eq_left (show n ≤ 64 by omega)]
  rw [show ((x : Int) * 2 ^ n) = ((x * 2 ^ n : Nat) : Int) by push_cast; rfl, wrap_u64]
theorem shr_u64 {P : Program} {t : TypeId} {c : Bool} (x n : Nat) (hn : n < 64) : evBin P .shr t c (.int .u64 (x : Int)) (.int .i64 (n : Int)) = some (.int .u64 ((x / 2 ^ n : Nat) : Int)) := by
  show (match decide ((n : Int) < 0) with
    | true => none
    | false => some (Value.int .u64 ((x : Int).fdiv (2 ^ (min (n : Int).toNat 64))))) = _
  rw [decide_eq_false (by omega)]
  simp only [Int.toNat_natCast, Nat.min_eq_left (show n ≤ 64 by omega)]
  rw [show ((2 : Int) ^ n) = ((2 ^ n : Nat) : Int) by push_cast; rfl, Int.fdiv_eq_ediv_of_nonneg _ (Int.natCast_nonneg _), ← Int.natCast_ediv]
/-- A remainder, shifted, with one bit more, as two words. -/
theorem shift_words {r bit : Nat} (hr : r < w128) (hb : bit ≤ 1) : ((2 * r + bit) % w128) / w64 = r / w64 * 2 % w64 + r % w64 / 9223372036854775808 ∧ (2 * r + bit) % w128 % w64 = r % w64 * 2 % w64 + bit ∧ (r / w64 / 9223372036854775808 = 0 ↔ 2 * r + bit < w128) ∧ r % w64 / 9223372036854775808 ≤ 1 := by
  have hs : (2 * r + bit) % w128 = if w128 ≤ 2 * r + bit then 2 * r + bit - w128 else 2 * r + bit := by
    split
    · rw [Nat.mod_eq_sub_mod (by assumption), Nat.mod_eq_of_lt (by simp only [w128] at *; omega)]
    · rw [Nat.mod_eq_of_lt (by simp only [w128] at *; omega)]
  rw [hs]
  simp only [w64, w128] at *
  split <;> omega
/-- The quotient's bits that are known, what is left. -/
def qk (a b m : Nat) : Nat := a / 2 ^ m / b * 2 ^ m
def rk (a b m : Nat) : Nat := a / 2 ^ m % b
theorem qr_step {a b j : Nat} (hb : 0 < b) : (if b ≤ 2 * rk a b (j + 1) + a / 2 ^ j % 2 then qk a b j = qk a b (j + 1) + 2 ^ j ∧ rk a b j = 2 * rk a b (j + 1) + a / 2 ^ j % 2 - b else qk a b j = qk a b (j + 1) ∧ rk a b j = 2 * rk a b (j + 1) + a / 2 ^ j % 2) := by
  have hN : a / 2 ^ j = 2 * (a / 2 ^ (j + 1)) + a / 2 ^ j % 2 := by
    rw [Nat.pow_succ, ← Nat.div_div_eq_div_mul]; omega
  have hs := div_step (N := a / 2 ^ (j + 1)) (bit := a / 2 ^ j % 2) hb (by omega)
  rw [← hN] at hs
  unfold qk rk
  have e : 2 ^ (j + 1) = 2 * 2 ^ j := by rw [Nat.pow_succ, Nat.mul_comm]
  rw [hs.1, hs.2]
  split
  · rename_i h
    refine ⟨?_, rfl⟩
    rw [e, Nat.add_mul, Nat.one_mul, ← Nat.mul_assoc, Nat.mul_comm 2 (_ / b)]
  · rename_i h
    refine ⟨?_, rfl⟩
    rw [e, Nat.add_zero, ← Nat.mul_assoc, Nat.mul_comm 2 (_ / b)]
end Go.Ev
end

/- Numbers of two words, further: Div walked. No condition. -/
noncomputable section
namespace Go.Ev
open Go.Proofs
set_option linter.unusedVariables false
set_option maxRecDepth 100000

theorem quo_nat {P : Program} {t : TypeId} {cst : Bool} {n m : Nat} (hm : 0 < m) (hn : n < 9223372036854775808) : evBin P .quo t cst (.int .i64 (n : Int)) (.int .i64 (m : Int)) = some (.int .i64 ((n / m : Nat) : Int)) := by
  show (match decide ((m : Int) = 0) with
    | true => none
    | false => some (Value.int .i64 (IntKind.i64.wrap ((n : Int).tdiv m)))) = _
  rw [decide_eq_false (by omega)]
  have : (n : Int).tdiv m = ((n / m : Nat) : Int) := by rw [Int.tdiv_eq_ediv_of_nonneg (by omega)]; push_cast; rfl
  have h2 : n / m ≤ n := Nat.div_le_self _ _
  rw [this]
  generalize n / m = q at h2
  simp only
  rw [wi64 (by omega) (by omega)]
theorem rem_nat {P : Program} {t : TypeId} {cst : Bool} {n m : Nat} (hm : 0 < m) : evBin P .rem t cst (.int .i64 (n : Int)) (.int .i64 (m : Int)) = some (.int .i64 ((n % m : Nat) : Int)) := by
  show (match decide ((m : Int) = 0) with
    | true => none
    | false => some (Value.int .i64 ((n : Int).tmod m))) = _
  rw [decide_eq_false (by omega)]
  have : (n : Int).tmod m = ((n % m : Nat) : Int) := by rw [Int.tmod_eq_emod_of_nonneg (by omega)]; push_cast; rfl
  rw [this]
theorem or_low {x y : Nat} (hy : y ≤ 1) : IntKind.u64.wrap ((BitVec.ofInt IntKind.u64.bits ((x * 2 % 18446744073709551616 : Nat) : Int) ||| BitVec.ofInt IntKind.u64.bits (y : Int)).toNat : Int) = ((x * 2 % w64 + y : Nat) : Int) := by
  rw [or_u64 (Nat.mod_lt _ (by decide)) (by omega)]
  have e : x * 2 % 18446744073709551616 = x % 9223372036854775808 * 2 ^ 1 := by omega
  have := or_shift (a := y) (b := x % 9223372036854775808) (k := 1) (by omega)
  rw [Nat.or_comm, e, this, Nat.add_comm]
theorem natU_same (Q : Nat) (a b c d : Nat) : (natU (ws Q)).length = (C4 a b c d).length := rfl
theorem sub_words {x b : Nat} (hx : x < w128) (hb : b < w128) : (x + w128 - b) % w128 % w64 = (x % w64 + w64 + w64 - b % w64 - 0) % w64 ∧ (x + w128 - b) % w128 / w64 = (x / w64 + w64 + w64 - b / w64 - (if x % w64 < b % w64 + 0 then 1 else 0)) % w64 := by
  simp only [w64, w128] at *
  split <;> omega
theorem qk_top {a b : Nat} (ha : a < w256) : qk a b 256 = 0 ∧ rk a b 256 = 0 % b := by
  have h : a / 2 ^ 256 = 0 := Nat.div_eq_of_lt (by rw [show (2 : Nat) ^ 256 = w256 by decide]; exact ha)
  unfold qk rk
  rw [h, Nat.zero_div, Nat.zero_mul]
  exact ⟨rfl, rfl⟩
theorem ws_zero : natU (ws 0) = C4 0 0 0 0 := by
  have h : ∀ i, wd 0 i = 0 := fun i => by unfold wd; rw [Nat.zero_div]
  unfold ws natU C4
  simp only [List.map_cons, List.map_nil, h]
theorem lDiv_spec {z : St} (wf : WF z) {a b : Nat} (ha : a < w256) (hb : b < w128) (hb0 : 0 < b) :
    Cw Tryd.prog 45 [W4 a, W2 b] z fun r s' => K0 z s' ∧ r = .tuple #[W4 (a / b), W2 (a % b), .bool true] := by
  have hp : Hp (fun _ => False) z [] [] z := Hp.start _ wf _ (by simp)
  refine Cw.enterS Tryd.func45 rfl rfl ?_
  refine Sm.seqW ?_
  conv => whnf
  refine hp.var (cs := C4 (a % w64) (a / w64 % w64) (a / w128 % w64) (a / w192)) (e := 1) rfl rfl ?_
  clear hp
  intro p2 s hp _
  rw [w4_ws ha] at hp
  conv => whnf
  refine hp.var (cs := C2 (b % w64) (b / w64)) (e := 1) rfl rfl ?_
  clear hp
  intro p3 s hp _
  conv => whnf
  refine hp.alloc (cs := C4 0 0 0 0) (e := 1) rfl rfl rfl rfl rfl ?_
  clear hp
  intro p4 s hp _
  conv => whnf
  refine hp.alloc (cs := C2 0 0) (e := 1) rfl rfl rfl rfl rfl ?_
  clear hp
  intro p5 s hp _
  conv => whnf
  refine Sm.live [2, 3, 4, 5] ?_
  conv => whnf
  refine Sm.seq ?_
  refine Sm.seqW ?_
  conv => whnf
  refine hp.loadA (l := C2 (b % w64) (b / w64)) (by repeat (first | exact Has.here | apply Has.there | (apply Has.swap; repeat (first | exact HasR.here | apply HasR.there)))) rfl (by rfl) rfl rfl ?_
  conv => whnf
  refine Om.of _ (z_eq b _) ?_
  conv => whnf
  rw [decide_eq_false (show ¬ b = 0 by omega)]
  refine Sm.ofW ?_
  conv => whnf
  repeat (first | (refine Br.yes (by first | with_reducible rfl | with_reducible exact beq_self_eq_true _ | rfl) ?_; conv => whnf) | (refine Br.no (by first | with_reducible rfl | with_reducible exact bne_self_eq_false _ | rfl) ?_; conv => whnf))
  refine Sm.live [2, 3, 4, 5] ?_
  conv => whnf
  obtain ⟨t1, t2⟩ := qk_top (b := b) ha
  rw [Nat.zero_mod] at t2
  have hp : Hp (fun _ => False) z [] [blkA p5 p5 (C2 (rk a b 256 % w64) (rk a b 256 / w64)) 1, blkA p4 p4 (natU (ws (qk a b 256))) 1, blkA p3 p3 (C2 (b % w64) (b / w64)) 1, blkA p2 p2 (natU (ws a)) 1] s := by
    rw [t2, t1, ws_zero]; exact hp
  clear t1 t2
  refine Sm.seq (Sm.mono (Q := fun e L' s' => e = .normal ∧ Hp (fun _ => False) z [] [blkA p5 p5 (C2 (rk a b 0 % w64) (rk a b 0 / w64)) 1, blkA p4 p4 (natU (ws (qk a b 0))) 1] s' ∧ Sub [(4, .pointer (some ⟨p4, 0, none⟩)), (5, .pointer (some ⟨p5, 0, none⟩))] L') ?_ ?_)
  · refine Sm.seqW ?_
    conv => whnf
    refine Sm.block ?_
    refine Sm.loop ?_
    refine Lp.ofS (α := Nat) (fun m => [(2, .pointer (some ⟨p2, 0, none⟩)), (3, .pointer (some ⟨p3, 0, none⟩)), (4, .pointer (some ⟨p4, 0, none⟩)), (5, .pointer (some ⟨p5, 0, none⟩)), (7, .int .i64 ((m : Int) - 1))])
      (fun m s' => m ≤ 256 ∧ Hp (fun _ => False) z [] [blkA p5 p5 (C2 (rk a b m % w64) (rk a b m / w64)) 1, blkA p4 p4 (natU (ws (qk a b m))) 1, blkA p3 p3 (C2 (b % w64) (b / w64)) 1, blkA p2 p2 (natU (ws a)) 1] s') (fun m => m) ?_ 256 (subK_ok (by refine ⟨rfl, rfl, rfl, rfl, rfl, trivial⟩)) ⟨Nat.le_refl _, hp⟩
    clear hp
    rintro m s ⟨hm, hp⟩
    cases m with
    | zero =>
      refine Sm.seq ?_
      refine Sm.seqW ?_
      conv => whnf
      refine Sm.ofW ?_
      conv => whnf
      refine Br.no rfl ?_
      conv => whnf
      exact ⟨rfl, hp.pik (by repeat (first | exact Pik.nil | exact Pik.refl _ | exact Rm.here | apply Rm.there | apply Pik.cons | apply Pik.skip)), subK_ok ⟨rfl, rfl, trivial⟩⟩
    | succ j =>
      refine Sm.weak [(2, .pointer (some ⟨p2, 0, none⟩)), (3, .pointer (some ⟨p3, 0, none⟩)), (4, .pointer (some ⟨p4, 0, none⟩)), (5, .pointer (some ⟨p5, 0, none⟩)), (7, .int .i64 (j : Int))] (subK_ok ⟨rfl, rfl, rfl, rfl, congrArg (fun x => some (Value.int .i64 x)) (show ((j + 1 : Nat) : Int) - 1 = (j : Int) by push_cast; omega), trivial⟩) ?_
      have hj : j < 256 := by omega
      have hi4 : j / 64 < 4 := by omega
      have hrlt : rk a b (j + 1) < b := Nat.mod_lt _ hb0
      have hstep := qr_step (a := a) (b := b) (j := j) hb0
      have hqdef : qk a b (j + 1) = a / 2 ^ (j + 1) / b * 2 ^ (j + 1) := rfl
      have hbit1 : a / 2 ^ j % 2 ≤ 1 := by omega
      have hwb := wd_bit a j
      generalize hbit : a / 2 ^ j % 2 = bit at hstep hbit1 hwb
      generalize hr : rk a b (j + 1) = r at *
      obtain ⟨w1, w2, w3, w4⟩ := shift_words (r := r) (bit := bit) (by omega) hbit1
      refine Sm.seq ?_
      refine Sm.seqW ?_
      conv => whnf
      refine Sm.ofW ?_
      conv => whnf
      refine Br.yes (decide_eq_true (by omega)) ?_
      conv => whnf
      refine Sm.seq (Sm.block ?_)
      refine Sm.seqW ?_
      conv => whnf
      (refine Om.of _ rfl ?_; conv => whnf)
      (refine hp.load (by repeat (first | exact Has.here | apply Has.there | (apply Has.swap; repeat (first | exact HasR.here | apply HasR.there)))) (by rfl) rfl rfl rfl ?_; conv => whnf)
      refine Om.of _ (congrArg (fun x => some (Value.int .u64 x)) (fdiv63 _)) ?_
      conv => whnf
      refine Sm.live [2, 3, 4, 5, 7, 8] ?_
      conv => whnf
      refine Sm.seqW ?_
      conv => whnf
      (refine Om.of _ rfl ?_; conv => whnf)
      (refine hp.load (by repeat (first | exact Has.here | apply Has.there | (apply Has.swap; repeat (first | exact HasR.here | apply HasR.there)))) (by rfl) rfl rfl rfl ?_; conv => whnf)
      refine Om.of (.int .u64 (IntKind.u64.wrap (((r / w64 : Nat) : Int) * 2 ^ 1))) rfl ?_
      conv => whnf
      (refine Om.of _ rfl ?_; conv => whnf)
      (refine hp.load (by repeat (first | exact Has.here | apply Has.there | (apply Has.swap; repeat (first | exact HasR.here | apply HasR.there)))) (by rfl) rfl rfl rfl ?_; conv => whnf)
      refine Om.of _ (congrArg (fun x => some (Value.int .u64 x)) (fdiv63 _)) ?_
      conv => whnf
      have e7 : IntKind.u64.wrap ((BitVec.ofInt IntKind.u64.bits (IntKind.u64.wrap (((r / w64 : Nat) : Int) * 2 ^ 1)) ||| BitVec.ofInt IntKind.u64.bits ((r % w64 / 9223372036854775808 : Nat) : Int)).toNat : Int) = (((2 * r + bit) % w128 / w64 : Nat) : Int) := by
        rw [w1, show (((r / w64 : Nat) : Int) * 2 ^ 1) = ((r / w64 * 2 : Nat) : Int) by rw [show ((2 : Int) ^ 1) = ((2 : Nat) : Int) from rfl, ← Int.natCast_mul], wrap_u64]
        exact or_low (by omega)
      rw [e7]
      (refine Om.of _ rfl ?_; conv => whnf)
      refine hp.store (off := 1) (by repeat (first | exact Rm.here | apply Rm.there)) (by show 1 < 2; decide) rfl rfl rfl rfl ?_
      clear hp
      intro s hp _
      replace hp := hp.as (a' := blkA p5 p5 (C2 (r % w64) ((2 * r + bit) % w128 / w64)) 1) (by repeat (first | exact Rm.here | apply Rm.there)) (fun h => h) (fun _ h => h)
      conv => whnf
      refine Sm.live [2, 3, 4, 5, 7, 8] ?_
      conv => whnf
      refine Sm.seqW ?_
      conv => whnf
      refine ⟨[0, 1, 3, 0, 8, 24, 56, 0, 128, 504, 1016, 2047, 4095, 8191], by decide +kernel, by decide +kernel, ?_⟩
      conv => whnf
      (refine Om.of _ rfl ?_; conv => whnf)
      (refine hp.load (by repeat (first | exact Has.here | apply Has.there | (apply Has.swap; repeat (first | exact HasR.here | apply HasR.there)))) (by rfl) rfl rfl rfl ?_; conv => whnf)
      refine Om.of (.int .u64 (IntKind.u64.wrap (((r % w64 : Nat) : Int) * 2 ^ 1))) rfl ?_
      conv => whnf
      refine Om.of _ (quo_nat (n := j) (m := 64) (by decide) (by omega)) ?_
      conv => whnf
      refine Om.of _ (ixA Tryd.underlying53 rfl rfl .i64 hi4) ?_
      conv => whnf
      obtain ⟨gl, gv⟩ := ws_get a (j / 64) hi4
      refine hp.load (v := .int .u64 ((wd a (j / 64) : Nat) : Int)) (by repeat (first | exact Has.here | apply Has.there | (apply Has.swap; repeat (first | exact HasR.here | apply HasR.there)))) (by rw [Nat.zero_add, natU_get _ _ gl, gv]) rfl rfl rfl ?_
      conv => whnf
      refine Om.of _ (rem_nat (n := j) (m := 64) (by decide)) ?_
      conv => whnf
      refine Om.of _ (shr_u64 _ (j % 64) (by omega)) ?_
      conv => whnf
      have e8 : IntKind.u64.wrap ((BitVec.ofInt IntKind.u64.bits (IntKind.u64.wrap (((r % w64 : Nat) : Int) * 2 ^ 1)) ||| BitVec.ofInt IntKind.u64.bits (IntKind.u64.wrap ((BitVec.ofInt IntKind.u64.bits ((wd a (j / 64) / 2 ^ (j % 64) : Nat) : Int) &&& BitVec.ofInt IntKind.u64.bits 1).toNat : Int))).toNat : Int) = (((2 * r + bit) % w128 % w64 : Nat) : Int) := by
        have hx : wd a (j / 64) / 2 ^ (j % 64) < w64 := Nat.lt_of_le_of_lt (Nat.div_le_self _ _) (wd_lt _ _)
        have ha1 := and_u64 (b := 1) hx (by decide)
        rw [Nat.and_one_is_mod, hwb] at ha1
        rw [show (BitVec.ofInt IntKind.u64.bits 1) = BitVec.ofInt IntKind.u64.bits ((1 : Nat) : Int) from rfl, ha1, w2, show (((r % w64 : Nat) : Int) * 2 ^ 1) = ((r % w64 * 2 : Nat) : Int) by rw [show ((2 : Int) ^ 1) = ((2 : Nat) : Int) from rfl, ← Int.natCast_mul], wrap_u64]
        exact or_low (by omega)
      rw [e8]
      (refine Om.of _ rfl ?_; conv => whnf)
      refine hp.rst.store (off := 0) (by repeat (first | exact Rm.here | apply Rm.there)) (by show 0 < 2; decide) rfl rfl rfl rfl ?_
      intro s1 h1 l1
      conv => whnf
      refine hp.dkW h1 l1 ?_
      clear hp h1 l1
      intro s hp
      replace hp := hp.as (a' := blkA p5 p5 (C2 ((2 * r + bit) % w128 % w64) ((2 * r + bit) % w128 / w64)) 1) (by repeat (first | exact Rm.here | apply Rm.there)) (fun h => h) (fun _ h => h)
      conv => whnf
      have hr2lt : (2 * r + bit) % w128 < w128 := Nat.mod_lt _ (by decide)
      have hmod : 2 * r + bit < w128 → (2 * r + bit) % w128 = 2 * r + bit := fun h => Nat.mod_eq_of_lt h
      have hdiff : b ≤ 2 * r + bit → ((2 * r + bit) % w128 + w128 - b) % w128 = 2 * r + bit - b := by
        intro h
        by_cases h2 : 2 * r + bit < w128
        · rw [hmod h2]; simp only [w128] at *; omega
        · have : (2 * r + bit) % w128 = 2 * r + bit - w128 := by
            rw [Nat.mod_eq_sub_mod (by omega), Nat.mod_eq_of_lt (by simp only [w128] at *; omega)]
          rw [this]; simp only [w128] at *; omega
      have hcmp : ∀ x y : Nat, decide (cmpI x y ≥ 0) = decide (y ≤ x) := by
        intro x y
        apply decide_eq_decide.2
        unfold cmpI
        by_cases c1 : x < y
        · rw [if_pos c1]; omega
        · rw [if_neg c1]; split <;> omega
      refine Sm.live [2, 3, 4, 5, 7, 8] ?_
      conv => whnf
      refine Sm.seqC (fun e L' s' => e = .normal ∧ Hp (fun _ => False) z [] [blkA p5 p5 (C2 ((2 * r + bit) % w128 % w64) ((2 * r + bit) % w128 / w64)) 1, blkA p4 p4 (natU (ws (qk a b (j + 1)))) 1, blkA p3 p3 (C2 (b % w64) (b / w64)) 1, blkA p2 p2 (natU (ws a)) 1] s' ∧ Sub [(2, .pointer (some ⟨p2, 0, none⟩)), (3, .pointer (some ⟨p3, 0, none⟩)), (4, .pointer (some ⟨p4, 0, none⟩)), (5, .pointer (some ⟨p5, 0, none⟩)), (7, .int .i64 (j : Int)), (53, .bool (decide (b ≤ 2 * r + bit)))] L') ?_ ?_
      · conv => whnf
        by_cases htop : r / w64 / 9223372036854775808 = 0
        · have d : decide (((r / w64 / 9223372036854775808 : Nat) : Int) > 0) = false := decide_eq_false (by rw [htop]; decide)
          have hlt := w3.1 htop
          refine Br.no d ?_
          conv => whnf
          refine hp.loadA (l := C2 ((2 * r + bit) % w128 % w64) ((2 * r + bit) % w128 / w64)) (by repeat (first | exact Has.here | apply Has.there | (apply Has.swap; repeat (first | exact HasR.here | apply HasR.there)))) rfl (by rfl) rfl rfl ?_
          conv => whnf
          refine Br.no d ?_
          conv => whnf
          refine hp.loadA (l := C2 (b % w64) (b / w64)) (by repeat (first | exact Has.here | apply Has.there | (apply Has.swap; repeat (first | exact HasR.here | apply HasR.there)))) rfl (by rfl) rfl rfl ?_
          conv => whnf
          refine Br.no d ?_
          conv => whnf
          (refine hp.call (lCmp_spec hp.wf (a := (2 * r + bit) % w128) (b := b) hr2lt hb) ?_; clear hp; rintro _ s rfl hp _; conv => whnf)
          refine Br.no d ?_
          conv => whnf
          refine Br.no d ?_
          conv => whnf
          exact ⟨rfl, hp, subK_ok ⟨rfl, rfl, rfl, rfl, rfl, congrArg (fun x => some (Value.bool x)) ((hcmp _ _).trans (by rw [hmod hlt])), trivial⟩⟩
        · have d : decide (((r / w64 / 9223372036854775808 : Nat) : Int) > 0) = true := decide_eq_true (Int.natCast_pos.2 (Nat.pos_of_ne_zero htop))
          have hge : ¬ 2 * r + bit < w128 := fun h => htop (w3.2 h)
          refine Br.yes d ?_
          conv => whnf
          refine Br.yes d ?_
          conv => whnf
          refine Br.yes d ?_
          conv => whnf
          refine Br.yes d ?_
          conv => whnf
          refine Br.yes d ?_
          conv => whnf
          exact ⟨rfl, hp, subK_ok ⟨rfl, rfl, rfl, rfl, rfl, congrArg (fun x => some (Value.bool x)) (decide_eq_true (by omega)).symm, trivial⟩⟩
      clear hp
      rintro e L' s ⟨rfl, hp, hs⟩
      refine Sm.weak _ hs ?_
      clear hs
      have ej : IntKind.i64.wrap ((j : Int) - 1) = (j : Int) - 1 := wi64 (by omega) (by omega)
      refine Sm.cond (v := decide (b ≤ 2 * r + bit)) rfl (fun hle => ?_) (fun hle => ?_)
      · have hle := of_decide_eq_true hle
        rw [if_pos hle] at hstep
        have hdf := hdiff hle
        obtain ⟨x1, x2⟩ := w2_lt hr2lt
        obtain ⟨b1, b2⟩ := w2_lt hb
        obtain ⟨y1, y2⟩ := sub_words hr2lt hb
        rw [hdf] at y1 y2
        generalize (2 * r + bit) % w128 % w64 = xl at *
        generalize (2 * r + bit) % w128 / w64 = xh at *
        have hbo : (if xl < b % w64 + 0 then 1 else 0) ≤ 1 := by split <;> omega
        refine Sm.seqW ?_
        conv => whnf
        (refine Om.of _ rfl ?_; conv => whnf)
        (refine hp.load (by repeat (first | exact Has.here | apply Has.there | (apply Has.swap; repeat (first | exact HasR.here | apply HasR.there)))) (by rfl) rfl rfl rfl ?_; conv => whnf)
        (refine Om.of _ rfl ?_; conv => whnf)
        (refine hp.load (by repeat (first | exact Has.here | apply Has.there | (apply Has.swap; repeat (first | exact HasR.here | apply HasR.there)))) (by rfl) rfl rfl rfl ?_; conv => whnf)
        refine (lless_spec _ (c := 0) x1 b1 (by decide)).mono ?_
        rintro _ _ ⟨rfl, rfl⟩
        rw [← y1]
        generalize hbr : (if xl < b % w64 + 0 then 1 else 0) = bo at hbo y2
        conv => whnf
        refine Sm.live [2, 3, 4, 5, 7, 9, 10] ?_
        conv => whnf
        refine Sm.seqW ?_
        conv => whnf
        (refine Om.of _ rfl ?_; conv => whnf)
        (refine hp.load (by repeat (first | exact Has.here | apply Has.there | (apply Has.swap; repeat (first | exact HasR.here | apply HasR.there)))) (by rfl) rfl rfl rfl ?_; conv => whnf)
        (refine Om.of _ rfl ?_; conv => whnf)
        (refine hp.load (by repeat (first | exact Has.here | apply Has.there | (apply Has.swap; repeat (first | exact HasR.here | apply HasR.there)))) (by rfl) rfl rfl rfl ?_; conv => whnf)
        refine (lless_spec _ x2 b2 hbo).mono ?_
        rintro _ _ ⟨rfl, rfl⟩
        rw [← y2]
        conv => whnf
        refine Sm.live [2, 3, 4, 5, 7, 9, 11] ?_
        conv => whnf
        refine Sm.seqW ?_
        conv => whnf
        refine hp.storeW (vs := C2 ((2 * r + bit - b) % w64) ((2 * r + bit - b) / w64)) rfl (by repeat (first | exact Rm.here | apply Rm.there)) (C2_same ..) rfl rfl rfl ?_
        clear hp
        intro s hp _
        conv => whnf
        refine Sm.live [2, 3, 4, 5, 7] ?_
        conv => whnf
        refine Sm.ofW ?_
        conv => whnf
        refine ⟨[0, 1, 3, 7, 0, 16, 48, 127, 255, 511], by decide +kernel, by decide +kernel, ?_⟩
        conv => whnf
        refine Om.of _ (quo_nat (n := j) (m := 64) (by decide) (by omega)) ?_
        conv => whnf
        refine Om.of _ (ixA Tryd.underlying53 rfl rfl .i64 hi4) ?_
        conv => whnf
        obtain ⟨gl, gv⟩ := ws_get (qk a b (j + 1)) (j / 64) hi4
        refine hp.load (v := .int .u64 ((wd (qk a b (j + 1)) (j / 64) : Nat) : Int)) (by repeat (first | exact Has.here | apply Has.there | (apply Has.swap; repeat (first | exact HasR.here | apply HasR.there)))) (by rw [Nat.zero_add, natU_get _ _ gl, gv]) rfl rfl rfl ?_
        conv => whnf
        refine Om.of _ (rem_nat (n := j) (m := 64) (by decide)) ?_
        conv => whnf
        refine Om.of _ (shl_u64 1 (j % 64) (by omega)) ?_
        conv => whnf
        have hpw : 1 * 2 ^ (j % 64) % w64 = 2 ^ (j % 64) := by
          rw [Nat.one_mul]
          exact Nat.mod_eq_of_lt (Nat.lt_of_lt_of_le (Nat.pow_lt_pow_right (by decide) (show j % 64 < 64 by omega)) (by decide))
        have hpl : 2 ^ (j % 64) < w64 := by rw [← hpw]; exact Nat.mod_lt _ (by decide)
        rw [hpw, or_u64 (wd_lt _ _) hpl]
        refine Om.of _ (ixA Tryd.underlying53 rfl rfl .i64 hi4) ?_
        conv => whnf
        refine hp.rst.store (by repeat (first | exact Rm.here | apply Rm.there)) (by rw [Nat.zero_add]; exact hi4) rfl rfl rfl rfl ?_
        intro s1 h1 l1
        rw [Nat.zero_add, natU_set, hqdef, ← ws_bit _ j hj, ← hqdef, ← hstep.1] at h1
        conv => whnf
        refine hp.dkW h1 l1 ?_
        clear hp h1 l1
        intro s hp
        conv => whnf
        refine Sm.ofW ?_
        conv => whnf
        rw [← hstep.2] at hp
        exact ⟨j, Nat.lt_succ_self j, subK_ok (by refine ⟨rfl, rfl, rfl, rfl, congrArg (fun x => some (Value.int .i64 x)) ej, trivial⟩), by omega, hp.pik (by repeat (first | exact Pik.nil | exact Pik.refl _ | exact Rm.here | apply Rm.there | apply Pik.cons | apply Pik.skip))⟩
      · have hle := of_decide_eq_false hle
        rw [if_neg hle] at hstep
        have hlt : 2 * r + bit < w128 := by omega
        rw [hmod hlt, ← hstep.2, ← hstep.1] at hp
        refine Sm.ofW ?_
        conv => whnf
        refine Sm.ofW ?_
        conv => whnf
        exact ⟨j, Nat.lt_succ_self j, subK_ok (by refine ⟨rfl, rfl, rfl, rfl, congrArg (fun x => some (Value.int .i64 x)) ej, trivial⟩), by omega, hp⟩
  clear hp
  rintro e L' s ⟨rfl, hp, hs⟩
  refine Sm.weak _ hs ?_
  clear hs
  have hq0 : qk a b 0 = a / b := by unfold qk; rw [Nat.pow_zero, Nat.div_one, Nat.mul_one]
  have hr0 : rk a b 0 = a % b := by unfold rk; rw [Nat.pow_zero, Nat.div_one]
  have hqa : a / b < w256 := Nat.lt_of_le_of_lt (Nat.div_le_self _ _) ha
  rw [hq0, hr0, ← w4_ws hqa] at hp
  generalize a / b = Q at *
  generalize a % b = R at *
  refine Sm.seqW ?_
  conv => whnf
  refine ⟨[0, 0, 1, 7, 15], by decide +kernel, by decide +kernel, ?_⟩
  conv => whnf
  refine hp.loadA (l := C4 (Q % w64) (Q / w64 % w64) (Q / w128 % w64) (Q / w192)) (by repeat (first | exact Has.here | apply Has.there | (apply Has.swap; repeat (first | exact HasR.here | apply HasR.there)))) rfl (by rfl) rfl rfl ?_
  conv => whnf
  refine hp.loadA (l := C2 (R % w64) (R / w64)) (by repeat (first | exact Has.here | apply Has.there | (apply Has.swap; repeat (first | exact HasR.here | apply HasR.there)))) rfl (by rfl) rfl rfl ?_
  conv => whnf
  have hp0 := hp
  refine hp.rst.storeW (vs := C4 (Q % w64) (Q / w64 % w64) (Q / w128 % w64) (Q / w192)) rfl (by repeat (first | exact Rm.here | apply Rm.there)) (C4_same ..) rfl rfl rfl ?_
  intro s1 h1 l1
  conv => whnf
  refine hp.dkW h1 l1 ?_
  clear hp h1 l1
  intro s hp
  conv => whnf
  refine ⟨hp0.sa hp (by repeat (first | exact Has.here | apply Has.there | (apply Has.swap; repeat (first | exact HasR.here | apply HasR.there)))) (by repeat (first | exact Has.here | apply Has.there | (apply Has.swap; repeat (first | exact HasR.here | apply HasR.there)))), ?_⟩
  clear hp0
  conv => whnf
  refine hp.rst.storeW (vs := C2 (R % w64) (R / w64)) rfl (by repeat (first | exact Rm.here | apply Rm.there)) (C2_same ..) rfl rfl rfl ?_
  intro s1 h1 l1
  conv => whnf
  refine hp.dkW h1 l1 ?_
  clear hp h1 l1
  intro s hp
  conv => whnf
  refine Sm.ofW ?_
  conv => whnf
  refine hp.loadA (l := C4 (Q % w64) (Q / w64 % w64) (Q / w128 % w64) (Q / w192)) (by repeat (first | exact Has.here | apply Has.there | (apply Has.swap; repeat (first | exact HasR.here | apply HasR.there)))) rfl (by rfl) rfl rfl ?_
  conv => whnf
  refine hp.loadA (l := C2 (R % w64) (R / w64)) (by repeat (first | exact Has.here | apply Has.there | (apply Has.swap; repeat (first | exact HasR.here | apply HasR.there)))) rfl (by rfl) rfl rfl ?_
  conv => whnf
  exact ⟨hp.fr, rfl⟩
end Go.Ev
end

/- Rounding: farther, made. No condition. -/
noncomputable section
namespace Go.Ev
open Go.Proofs
set_option linter.unusedVariables false
set_option maxRecDepth 100000

/-- One farther from 0? -/
def farF (neg odd : Bool) (r b : Nat) (mode : Int) : Bool :=
  if r = 0 then false else if mode = 1 then true else if mode = 2 then neg else if mode = 3 then decide (cmpI r (b - r) ≥ 0) else if mode = 4 then (decide (cmpI r (b - r) > 0) || (cmpI r (b - r) == 0 && odd)) else false
theorem farther_spec {z : St} (wf : WF z) (neg odd : Bool) {r b : Nat} (hr : r < b) (hb : b < w128) (mode : Int) :
    Cw Tryd.prog 86 [.bool neg, .bool odd, W2 r, W2 b, .int .i64 mode] z fun v s' => K0 z s' ∧ v = .bool (farF neg odd r b mode) := by
  have hp : Hp (fun _ => False) z [] [] z := Hp.start _ wf _ (by simp)
  refine Cw.enterS Tryd.func86 rfl rfl ?_
  refine Sm.seqW ?_
  conv => whnf
  refine hp.var (cs := C2 (r % w64) (r / w64)) (e := 1) rfl rfl ?_
  clear hp
  intro p7 s hp _
  conv => whnf
  refine hp.var (cs := C2 (b % w64) (b / w64)) (e := 1) rfl rfl ?_
  clear hp
  intro p8 s hp _
  conv => whnf
  refine Sm.live [0, 1, 4, 7, 8] ?_
  conv => whnf
  refine Sm.seq ?_
  refine Sm.seqW ?_
  conv => whnf
  refine hp.loadA (l := C2 (r % w64) (r / w64)) (by repeat (first | exact Has.here | apply Has.there | (apply Has.swap; repeat (first | exact HasR.here | apply HasR.there)))) rfl (by rfl) rfl rfl ?_
  conv => whnf
  refine Om.of _ (z_eq r _) ?_
  conv => whnf
  by_cases h0 : r = 0
  · rw [decide_eq_true h0]
    refine Sm.ofW ?_
    conv => whnf
    repeat (first | (refine Br.yes (by first | with_reducible rfl | with_reducible exact beq_self_eq_true _ | rfl) ?_; conv => whnf) | (refine Br.no (by first | with_reducible rfl | with_reducible exact bne_self_eq_false _ | rfl) ?_; conv => whnf))
    exact ⟨hp.fr, congrArg Value.bool (by unfold farF; rw [if_pos h0])⟩
  rw [decide_eq_false h0]
  refine Sm.ofW ?_
  conv => whnf
  repeat (first | (refine Br.yes (by first | with_reducible rfl | with_reducible exact beq_self_eq_true _ | rfl) ?_; conv => whnf) | (refine Br.no (by first | with_reducible rfl | with_reducible exact bne_self_eq_false _ | rfl) ?_; conv => whnf))
  refine Sm.live [0, 1, 4, 7, 8] ?_
  conv => whnf
  refine Sm.seq ?_
  refine Sm.seqW ?_
  conv => whnf
  refine Sm.ofW ?_
  conv => whnf
  have yes : ∀ k : Int, mode = k → (mode == k) = true := fun k h => beq_iff_eq.2 h
  have no : ∀ k : Int, mode ≠ k → (mode == k) = false := fun k h => beq_eq_false_iff_ne.2 h
  by_cases h1 : mode = 1
  · refine Br.yes (yes 1 h1) ?_
    conv => whnf
    exact ⟨hp.fr, congrArg Value.bool (by unfold farF; rw [if_neg h0, if_pos h1])⟩
  refine Br.no (no 1 h1) ?_
  conv => whnf
  by_cases h2 : mode = 2
  · refine Br.yes (yes 2 h2) ?_
    conv => whnf
    exact ⟨hp.fr, congrArg Value.bool (by unfold farF; rw [if_neg h0, if_neg h1, if_pos h2])⟩
  refine Br.no (no 2 h2) ?_
  conv => whnf
  by_cases h3 : mode = 3
  · refine Br.yes (yes 3 h3) ?_
    conv => whnf
    refine hp.loadA (l := C2 (r % w64) (r / w64)) (by repeat (first | exact Has.here | apply Has.there | (apply Has.swap; repeat (first | exact HasR.here | apply HasR.there)))) rfl (by rfl) rfl rfl ?_
    conv => whnf
    refine hp.loadA (l := C2 (b % w64) (b / w64)) (by repeat (first | exact Has.here | apply Has.there | (apply Has.swap; repeat (first | exact HasR.here | apply HasR.there)))) rfl (by rfl) rfl rfl ?_
    conv => whnf
    (refine hp.call (middle_spec hp.wf hr hb) ?_; clear hp; rintro _ s rfl hp _; conv => whnf)
    exact ⟨hp.fr, congrArg Value.bool (by unfold farF; rw [if_neg h0, if_neg h1, if_neg h2, if_pos h3])⟩
  refine Br.no (no 3 h3) ?_
  conv => whnf
  by_cases h4 : mode = 4
  · refine Br.yes (yes 4 h4) ?_
    conv => whnf
    refine hp.loadA (l := C2 (r % w64) (r / w64)) (by repeat (first | exact Has.here | apply Has.there | (apply Has.swap; repeat (first | exact HasR.here | apply HasR.there)))) rfl (by rfl) rfl rfl ?_
    conv => whnf
    refine hp.loadA (l := C2 (b % w64) (b / w64)) (by repeat (first | exact Has.here | apply Has.there | (apply Has.swap; repeat (first | exact HasR.here | apply HasR.there)))) rfl (by rfl) rfl rfl ?_
    conv => whnf
    (refine hp.call (middle_spec hp.wf hr hb) ?_; clear hp; rintro _ s rfl hp _; conv => whnf)
    have hF : farF neg odd r b mode = (decide (cmpI r (b - r) > 0) || (cmpI r (b - r) == 0 && odd)) := by unfold farF; rw [if_neg h0, if_neg h1, if_neg h2, if_neg h3, if_pos h4]
    generalize cmpI r (b - r) = c at *
    cases hc1 : decide (c > 0) with
    | true =>
      rw [hc1] at hF
      repeat (first | (refine Br.yes (by first | with_reducible rfl | with_reducible exact beq_self_eq_true _ | rfl) ?_; conv => whnf) | (refine Br.no (by first | with_reducible rfl | with_reducible exact bne_self_eq_false _ | rfl) ?_; conv => whnf))
      exact ⟨hp.fr, congrArg Value.bool hF.symm⟩
    | false =>
      rw [hc1] at hF
      repeat (first | (refine Br.yes (by first | with_reducible rfl | with_reducible exact beq_self_eq_true _ | rfl) ?_; conv => whnf) | (refine Br.no (by first | with_reducible rfl | with_reducible exact bne_self_eq_false _ | rfl) ?_; conv => whnf))
      cases hc2 : (c == 0) with
      | true =>
        rw [hc2] at hF
        repeat (first | (refine Br.yes (by first | with_reducible rfl | with_reducible exact beq_self_eq_true _ | rfl) ?_; conv => whnf) | (refine Br.no (by first | with_reducible rfl | with_reducible exact bne_self_eq_false _ | rfl) ?_; conv => whnf))
        exact ⟨hp.fr, congrArg Value.bool hF.symm⟩
      | false =>
        rw [hc2] at hF
        repeat (first | (refine Br.yes (by first | with_reducible rfl | with_reducible exact beq_self_eq_true _ | rfl) ?_; conv => whnf) | (refine Br.no (by first | with_reducible rfl | with_reducible exact bne_self_eq_false _ | rfl) ?_; conv => whnf))
        exact ⟨hp.fr, congrArg Value.bool hF.symm⟩
  refine Br.no (no 4 h4) ?_
  conv => whnf
  refine Sm.ofW ?_
  conv => whnf
  exact ⟨hp.fr, congrArg Value.bool (by unfold farF; rw [if_neg h0, if_neg h1, if_neg h2, if_neg h3, if_neg h4])⟩
theorem qmade_spec {z : St} (wf : WF z) (neg : Bool) {n : Nat} (hn : n < w256) {sc : Int} (h1 : 0 ≤ sc) (h2 : sc ≤ 9) :
    Cw Tryd.prog 72 [.bool neg, W4 n, .int .i64 sc] z fun r s' => K0 z s' ∧ r = dmade neg n sc := by
  have hp : Hp (fun _ => False) z [] [] z := Hp.start _ wf _ (by simp)
  refine Cw.enterS Tryd.func72 rfl rfl ?_
  refine Sm.seqW ?_
  conv => whnf
  refine hp.var (cs := C4 (n % w64) (n / w64 % w64) (n / w128 % w64) (n / w192)) (e := 1) rfl rfl ?_
  clear hp
  intro p1 s hp _
  conv => whnf
  refine hp.alloc (cs := Dc.zero.cells) (e := 4) rfl rfl rfl rfl rfl ?_
  clear hp
  intro p6 s hp _
  conv => whnf
  refine Sm.live [0, 2, 4, 6, 7] ?_
  conv => whnf
  refine Sm.seqW ?_
  conv => whnf
  refine hp.loadA (l := C4 (n % w64) (n / w64 % w64) (n / w128 % w64) (n / w192)) (by repeat (first | exact Has.here | apply Has.there | (apply Has.swap; repeat (first | exact HasR.here | apply HasR.there)))) rfl (by rfl) rfl rfl ?_
  conv => whnf
  -- what the lower two words are
  obtain ⟨c, ok, hc, hsh, hok⟩ : ∃ (c : Nat) (ok : Bool), c < w128 ∧ shortR n = .tuple #[W2 c, .bool ok] ∧ ((ok = true ∧ c = n) ∨ (ok = false ∧ ¬ n < w128)) := by
    unfold shortR
    by_cases h : n < w128
    · exact ⟨n, true, h, if_pos h, .inl ⟨rfl, rfl⟩⟩
    · exact ⟨0, false, by decide, if_neg h, .inr ⟨rfl, h⟩⟩
  refine hp.call ((lShort_spec hp.wf hn).mono fun r s' ⟨a1, a2⟩ => ⟨a1, a2.trans hsh⟩) ?_
  clear hp
  rintro _ s rfl hp _
  conv => whnf
  refine hp.alloc (cs := C2 0 0) (e := 1) rfl rfl rfl rfl rfl ?_
  clear hp
  intro p8 s hp _
  conv => whnf
  refine hp.storeW (vs := C2 (c % w64) (c / w64)) rfl (by repeat (first | exact Rm.here | apply Rm.there)) (C2_same ..) rfl rfl rfl ?_
  clear hp
  intro s hp _
  conv => whnf
  refine Sm.live [0, 2, 6, 7, 8, 9] ?_
  conv => whnf
  refine Sm.seqC (fun e L' s' => e = .normal ∧ ∃ p10, Hp (fun _ => False) z [] [blkA p10 p10 (Dc.cells ⟨neg && !decide (c = 0), c, sc⟩) 4, blkA p6 p6 Dc.zero.cells 4] s' ∧ Sub [(6, .pointer (some ⟨p6, 0, none⟩)), (9, .bool ok), (10, .pointer (some ⟨p10, 0, none⟩))] L') ?_ ?_
  · conv => whnf
    refine ⟨[0, 1, 3, 3, 15, 31, 0, 0, 255, 0, 1023], by decide +kernel, by decide +kernel, ?_⟩
    conv => whnf
    cases neg with
    | false =>
      repeat (first | (refine Br.yes (by first | with_reducible rfl | with_reducible exact beq_self_eq_true _ | rfl) ?_; conv => whnf) | (refine Br.no (by first | with_reducible rfl | with_reducible exact bne_self_eq_false _ | rfl) ?_; conv => whnf))
      refine hp.loadA (l := C2 (c % w64) (c / w64)) (by repeat (first | exact Has.here | apply Has.there | (apply Has.swap; repeat (first | exact HasR.here | apply HasR.there)))) rfl (by rfl) rfl rfl ?_
      conv => whnf
      refine hp.rst.alloc (cs := Dc.zero.cells) (e := 4) rfl rfl rfl rfl rfl ?_
      intro p10 s1 h1' k1
      conv => whnf
      refine hp.dkN h1' k1 ?_
      clear hp h1' k1
      intro s hp
      conv => whnf
      refine hp.rst.storeW (vs := Dc.cells ⟨false && !decide (c = 0), c, sc⟩) rfl (by repeat (first | exact Rm.here | apply Rm.there)) (Dc_same _ Dc.zero) rfl rfl rfl ?_
      intro s1 h1' l1
      conv => whnf
      refine hp.dkW h1' l1 ?_
      clear hp h1' l1
      intro s hp
      conv => whnf
      exact ⟨rfl, p10, hp.pik (by repeat (first | exact Pik.nil | exact Pik.refl _ | exact Rm.here | apply Rm.there | apply Pik.cons | apply Pik.skip)), subK_ok ⟨rfl, rfl, rfl, trivial⟩⟩
    | true =>
      repeat (first | (refine Br.yes (by first | with_reducible rfl | with_reducible exact beq_self_eq_true _ | rfl) ?_; conv => whnf) | (refine Br.no (by first | with_reducible rfl | with_reducible exact bne_self_eq_false _ | rfl) ?_; conv => whnf))
      refine hp.loadA (l := C2 (c % w64) (c / w64)) (by repeat (first | exact Has.here | apply Has.there | (apply Has.swap; repeat (first | exact HasR.here | apply HasR.there)))) rfl (by rfl) rfl rfl ?_
      conv => whnf
      repeat (first | (refine Br.yes (by first | with_reducible rfl | with_reducible exact beq_self_eq_true _ | rfl) ?_; conv => whnf) | (refine Br.no (by first | with_reducible rfl | with_reducible exact bne_self_eq_false _ | rfl) ?_; conv => whnf))
      refine Om.of _ (z_ne c _) ?_
      conv => whnf
      repeat (first | (refine Br.yes (by first | with_reducible rfl | with_reducible exact beq_self_eq_true _ | rfl) ?_; conv => whnf) | (refine Br.no (by first | with_reducible rfl | with_reducible exact bne_self_eq_false _ | rfl) ?_; conv => whnf))
      refine hp.loadA (l := C2 (c % w64) (c / w64)) (by repeat (first | exact Has.here | apply Has.there | (apply Has.swap; repeat (first | exact HasR.here | apply HasR.there)))) rfl (by rfl) rfl rfl ?_
      conv => whnf
      refine hp.rst.alloc (cs := Dc.zero.cells) (e := 4) rfl rfl rfl rfl rfl ?_
      intro p10 s1 h1' k1
      conv => whnf
      refine hp.dkN h1' k1 ?_
      clear hp h1' k1
      intro s hp
      conv => whnf
      refine hp.rst.storeW (vs := Dc.cells ⟨true && !decide (c = 0), c, sc⟩) rfl (by repeat (first | exact Rm.here | apply Rm.there)) (Dc_same _ Dc.zero) rfl rfl rfl ?_
      intro s1 h1' l1
      conv => whnf
      refine hp.dkW h1' l1 ?_
      clear hp h1' l1
      intro s hp
      conv => whnf
      exact ⟨rfl, p10, hp.pik (by repeat (first | exact Pik.nil | exact Pik.refl _ | exact Rm.here | apply Rm.there | apply Pik.cons | apply Pik.skip)), subK_ok ⟨rfl, rfl, rfl, trivial⟩⟩
  clear hp
  rintro e L' s ⟨rfl, p10, hp, hs⟩
  refine Sm.weak _ hs ?_
  clear hs
  obtain ⟨d, hd⟩ : ∃ d : Dc, d = ⟨neg && !decide (c = 0), c, sc⟩ := ⟨_, rfl⟩
  have hdc : d.c < w128 := by rw [hd]; exact hc
  have hright : d.right = decide (c < 10 ^ 30) := by
    rw [hd]
    unfold Dc.right
    simp only [decide_eq_true (show sc ≥ 0 from h1), decide_eq_true h2, Bool.true_and]
    cases neg <;> cases hq : decide (c = 0) <;> simp
  have hres : dmade neg n sc = if ok = true ∧ c < 10 ^ 30 then okD d else errD 3 := by
    have hbig : (10 : Nat) ^ 30 < w128 := by decide
    unfold dmade
    rcases hok with ⟨rfl, rfl⟩ | ⟨rfl, h⟩
    · by_cases h : c < 10 ^ 30
      · rw [if_pos h, if_pos ⟨rfl, h⟩, hd]
      · rw [if_neg h, if_neg (fun g => h g.2)]
    · rw [if_neg (by omega), if_neg (fun g => by cases g.1)]
  rw [hres]
  rw [← hd] at hp
  clear hd hres hok hsh
  refine Sm.seq ?_
  refine Sm.seqW ?_
  conv => whnf
  cases ok with
  | false =>
    repeat (first | (refine Br.yes (by first | with_reducible rfl | with_reducible exact beq_self_eq_true _ | rfl) ?_; conv => whnf) | (refine Br.no (by first | with_reducible rfl | with_reducible exact bne_self_eq_false _ | rfl) ?_; conv => whnf))
    refine Sm.ofW ?_
    conv => whnf
    repeat (first | (refine Br.yes (by first | with_reducible rfl | with_reducible exact beq_self_eq_true _ | rfl) ?_; conv => whnf) | (refine Br.no (by first | with_reducible rfl | with_reducible exact bne_self_eq_false _ | rfl) ?_; conv => whnf))
    rw [if_neg (fun g => by cases g.1)]
    refine hp.storeW (vs := Dc.zero.cells) rfl (by repeat (first | exact Rm.here | apply Rm.there)) (Dc_same _ Dc.zero) rfl rfl rfl ?_
    clear hp
    intro s hp _
    conv => whnf
    refine hp.loadA (l := Dc.zero.cells) (by repeat (first | exact Has.here | apply Has.there | (apply Has.swap; repeat (first | exact HasR.here | apply HasR.there)))) rfl (by rfl) rfl rfl ?_
    conv => whnf
    exact ⟨hp.fr, rfl⟩
  | true =>
    repeat (first | (refine Br.yes (by first | with_reducible rfl | with_reducible exact beq_self_eq_true _ | rfl) ?_; conv => whnf) | (refine Br.no (by first | with_reducible rfl | with_reducible exact bne_self_eq_false _ | rfl) ?_; conv => whnf))
    refine hp.loadA (l := d.cells) (by repeat (first | exact Has.here | apply Has.there | (apply Has.swap; repeat (first | exact HasR.here | apply HasR.there)))) rfl (by rfl) rfl rfl ?_
    conv => whnf
    repeat (first | (refine Br.yes (by first | with_reducible rfl | with_reducible exact beq_self_eq_true _ | rfl) ?_; conv => whnf) | (refine Br.no (by first | with_reducible rfl | with_reducible exact bne_self_eq_false _ | rfl) ?_; conv => whnf))
    (refine hp.call (right_spec hp.wf d hdc) ?_; clear hp; rintro _ s rfl hp _; conv => whnf)
    rw [hright]
    by_cases h : c < 10 ^ 30
    · rw [decide_eq_true h, if_pos ⟨rfl, h⟩]
      repeat (first | (refine Br.yes (by first | with_reducible rfl | with_reducible exact beq_self_eq_true _ | rfl) ?_; conv => whnf) | (refine Br.no (by first | with_reducible rfl | with_reducible exact bne_self_eq_false _ | rfl) ?_; conv => whnf))
      refine Sm.ofW ?_
      conv => whnf
      repeat (first | (refine Br.yes (by first | with_reducible rfl | with_reducible exact beq_self_eq_true _ | rfl) ?_; conv => whnf) | (refine Br.no (by first | with_reducible rfl | with_reducible exact bne_self_eq_false _ | rfl) ?_; conv => whnf))
      refine Sm.seqW ?_
      conv => whnf
      refine hp.loadA (l := d.cells) (by repeat (first | exact Has.here | apply Has.there | (apply Has.swap; repeat (first | exact HasR.here | apply HasR.there)))) rfl (by rfl) rfl rfl ?_
      conv => whnf
      refine hp.storeW (vs := d.cells) rfl (by repeat (first | exact Rm.here | apply Rm.there)) (Dc_same _ Dc.zero) rfl rfl rfl ?_
      clear hp
      intro s hp _
      conv => whnf
      refine Sm.ofW ?_
      conv => whnf
      refine hp.loadA (l := d.cells) (by repeat (first | exact Has.here | apply Has.there | (apply Has.swap; repeat (first | exact HasR.here | apply HasR.there)))) rfl (by rfl) rfl rfl ?_
      conv => whnf
      exact ⟨hp.fr, rfl⟩
    · rw [decide_eq_false h, if_neg (fun g => h g.2)]
      repeat (first | (refine Br.yes (by first | with_reducible rfl | with_reducible exact beq_self_eq_true _ | rfl) ?_; conv => whnf) | (refine Br.no (by first | with_reducible rfl | with_reducible exact bne_self_eq_false _ | rfl) ?_; conv => whnf))
      refine Sm.ofW ?_
      conv => whnf
      repeat (first | (refine Br.yes (by first | with_reducible rfl | with_reducible exact beq_self_eq_true _ | rfl) ?_; conv => whnf) | (refine Br.no (by first | with_reducible rfl | with_reducible exact bne_self_eq_false _ | rfl) ?_; conv => whnf))
      refine hp.storeW (vs := Dc.zero.cells) rfl (by repeat (first | exact Rm.here | apply Rm.there)) (Dc_same _ Dc.zero) rfl rfl rfl ?_
      clear hp
      intro s hp _
      conv => whnf
      refine hp.loadA (l := Dc.zero.cells) (by repeat (first | exact Has.here | apply Has.there | (apply Has.swap; repeat (first | exact HasR.here | apply HasR.there)))) rfl (by rfl) rfl rfl ?_
      conv => whnf
      exact ⟨hp.fr, rfl⟩
end Go.Ev
end

/- Rounding: rounded. No condition. -/
noncomputable section
namespace Go.Ev
open Go.Proofs
set_option linter.unusedVariables false
set_option maxRecDepth 100000

/-- A quotient, rounded. -/
def roundN (neg : Bool) (n b : Nat) (mode : Int) : Nat := n / b + if farF neg (decide (n / b % 2 = 1)) (n % b) b mode = true then 1 else 0
theorem dmade_big {neg : Bool} {n : Nat} {sc : Int} (h : ¬ n < w128) : dmade neg n sc = errD 3 := by
  have : (10 : Nat) ^ 30 < w128 := by decide
  unfold dmade
  rw [if_neg (by omega)]
theorem lAdd_ok {z : St} (wf : WF z) {a b : Nat} (ha : a < w128) (hb : b < w128) (h : a + b < w128) :
    Cw Tryd.prog 52 [W2 a, W2 b] z fun r s' => K0 z s' ∧ r = .tuple #[W2 (a + b), .bool true] :=
  (lAdd_spec wf ha hb).mono fun r s' ⟨h1, h2⟩ => ⟨h1, h2.trans (if_pos h)⟩
theorem lAdd_no {z : St} (wf : WF z) {a b : Nat} (ha : a < w128) (hb : b < w128) (h : ¬ a + b < w128) :
    Cw Tryd.prog 52 [W2 a, W2 b] z fun r s' => K0 z s' ∧ r = .tuple #[W2 0, .bool false] :=
  (lAdd_spec wf ha hb).mono fun r s' ⟨h1, h2⟩ => ⟨h1, h2.trans (if_neg h)⟩
theorem rounded_spec {z : St} (wf : WF z) (neg : Bool) {n b : Nat} (hn : n < w256) (hb : b < w128) (hb0 : 0 < b) {sc : Int} (h1 : 0 ≤ sc) (h2 : sc ≤ 9) (mode : Int) :
    Cw Tryd.prog 70 [.bool neg, W4 n, W2 b, .int .i64 sc, .int .i64 mode] z fun r s' => K0 z s' ∧ r = dmade neg (roundN neg n b mode) sc := by
  have hp : Hp (fun _ => False) z [] [] z := Hp.start _ wf _ (by simp)
  have hrb : n % b < b := Nat.mod_lt _ hb0
  have hqn : n / b < w256 := Nat.lt_of_le_of_lt (Nat.div_le_self _ _) hn
  refine Cw.enterS Tryd.func70 rfl rfl ?_
  refine Sm.seqW ?_
  conv => whnf
  refine hp.var (cs := C4 (n % w64) (n / w64 % w64) (n / w128 % w64) (n / w192)) (e := 1) rfl rfl ?_
  clear hp
  intro p6 s hp _
  conv => whnf
  refine hp.var (cs := C2 (b % w64) (b / w64)) (e := 1) rfl rfl ?_
  clear hp
  intro p7 s hp _
  conv => whnf
  refine hp.alloc (cs := Dc.zero.cells) (e := 4) rfl rfl rfl rfl rfl ?_
  clear hp
  intro p10 s hp _
  conv => whnf
  refine Sm.live [0, 3, 4, 6, 7, 10, 11] ?_
  conv => whnf
  refine Sm.seqW ?_
  conv => whnf
  refine hp.loadA (l := C4 (n % w64) (n / w64 % w64) (n / w128 % w64) (n / w192)) (by repeat (first | exact Has.here | apply Has.there | (apply Has.swap; repeat (first | exact HasR.here | apply HasR.there)))) rfl (by rfl) rfl rfl ?_
  conv => whnf
  refine hp.loadA (l := C2 (b % w64) (b / w64)) (by repeat (first | exact Has.here | apply Has.there | (apply Has.swap; repeat (first | exact HasR.here | apply HasR.there)))) rfl (by rfl) rfl rfl ?_
  conv => whnf
  (refine hp.call (lDiv_spec hp.wf hn hb hb0) ?_; clear hp; rintro _ s rfl hp _; conv => whnf)
  unfold roundN
  generalize n / b = q at *
  generalize n % b = r at *
  refine hp.alloc (cs := C4 0 0 0 0) (e := 1) rfl rfl rfl rfl rfl ?_
  clear hp
  intro p12 s hp _
  conv => whnf
  refine hp.alloc (cs := C2 0 0) (e := 1) rfl rfl rfl rfl rfl ?_
  clear hp
  intro p13 s hp _
  conv => whnf
  refine hp.storeW (vs := C4 (q % w64) (q / w64 % w64) (q / w128 % w64) (q / w192)) rfl (by repeat (first | exact Rm.here | apply Rm.there)) (C4_same ..) rfl rfl rfl ?_
  clear hp
  intro s hp _
  conv => whnf
  refine hp.storeW (vs := C2 (r % w64) (r / w64)) rfl (by repeat (first | exact Rm.here | apply Rm.there)) (C2_same ..) rfl rfl rfl ?_
  clear hp
  intro s hp _
  conv => whnf
  refine Sm.live [0, 3, 4, 7, 10, 11, 12, 13] ?_
  conv => whnf
  refine Sm.seqW ?_
  conv => whnf
  refine hp.loadA (l := C4 (q % w64) (q / w64 % w64) (q / w128 % w64) (q / w192)) (by repeat (first | exact Has.here | apply Has.there | (apply Has.swap; repeat (first | exact HasR.here | apply HasR.there)))) rfl (by rfl) rfl rfl ?_
  conv => whnf
  by_cases hq : q < w128
  · (refine hp.call (lShort_ok hp.wf (n := q) hq) ?_; clear hp; rintro _ s rfl hp _; conv => whnf)
    refine hp.alloc (cs := C2 0 0) (e := 1) rfl rfl rfl rfl rfl ?_
    clear hp
    intro p15 s hp _
    conv => whnf
    refine hp.storeW (vs := C2 (q % w64) (q / w64)) rfl (by repeat (first | exact Rm.here | apply Rm.there)) (C2_same ..) rfl rfl rfl ?_
    clear hp
    intro s hp _
    conv => whnf
    refine Sm.live [0, 3, 4, 7, 10, 11, 13, 15, 16] ?_
    conv => whnf
    refine Sm.seq ?_
    refine Sm.seqW ?_
    conv => whnf
    refine Sm.ofW ?_
    conv => whnf
    repeat (first | (refine Br.yes (by first | with_reducible rfl | with_reducible exact beq_self_eq_true _ | rfl) ?_; conv => whnf) | (refine Br.no (by first | with_reducible rfl | with_reducible exact bne_self_eq_false _ | rfl) ?_; conv => whnf))
    refine Sm.live [0, 3, 4, 7, 10, 11, 13, 15] ?_
    conv => whnf
    refine Sm.seq ?_
    refine Sm.seqW ?_
    conv => whnf
    (refine Om.of _ rfl ?_; conv => whnf)
    (refine hp.load (by repeat (first | exact Has.here | apply Has.there | (apply Has.swap; repeat (first | exact HasR.here | apply HasR.there)))) (by rfl) rfl rfl rfl ?_; conv => whnf)
    have eodd : decide (IntKind.u64.wrap ((BitVec.ofInt IntKind.u64.bits ((q % w64 : Nat) : Int) &&& BitVec.ofInt IntKind.u64.bits 1).toNat : Int) > 0) = decide (q % 2 = 1) := by
      have ha1 := and_u64 (a := q % w64) (b := 1) (Nat.mod_lt _ (by decide)) (by decide)
      rw [Nat.and_one_is_mod] at ha1
      rw [show (BitVec.ofInt IntKind.u64.bits 1) = BitVec.ofInt IntKind.u64.bits ((1 : Nat) : Int) from rfl, ha1]
      apply decide_eq_decide.2
      have : q % w64 % 2 = q % 2 := by simp only [w64]; omega
      rw [this]
      omega
    rw [eodd]
    refine hp.loadA (l := C2 (r % w64) (r / w64)) (by repeat (first | exact Has.here | apply Has.there | (apply Has.swap; repeat (first | exact HasR.here | apply HasR.there)))) rfl (by rfl) rfl rfl ?_
    conv => whnf
    refine hp.loadA (l := C2 (b % w64) (b / w64)) (by repeat (first | exact Has.here | apply Has.there | (apply Has.swap; repeat (first | exact HasR.here | apply HasR.there)))) rfl (by rfl) rfl rfl ?_
    conv => whnf
    (refine hp.call (farther_spec hp.wf neg (decide (q % 2 = 1)) hrb hb mode) ?_; clear hp; rintro _ s rfl hp _; conv => whnf)
    cases hf : farF neg (decide (q % 2 = 1)) r b mode with
    | false =>
      rw [if_neg (by decide), Nat.add_zero]
      refine Sm.ofW ?_
      conv => whnf
      repeat (first | (refine Br.yes (by first | with_reducible rfl | with_reducible exact beq_self_eq_true _ | rfl) ?_; conv => whnf) | (refine Br.no (by first | with_reducible rfl | with_reducible exact bne_self_eq_false _ | rfl) ?_; conv => whnf))
      refine Sm.live [0, 3, 10, 11, 15] ?_
      conv => whnf
      refine Sm.ofW ?_
      conv => whnf
      refine hp.loadA (l := C2 (q % w64) (q / w64)) (by repeat (first | exact Has.here | apply Has.there | (apply Has.swap; repeat (first | exact HasR.here | apply HasR.there)))) rfl (by rfl) rfl rfl ?_
      conv => whnf
      (refine hp.call (lWide_spec hp.wf (n := q) hq) ?_; clear hp; rintro _ s rfl hp _; conv => whnf)
      (refine hp.call (qmade_spec hp.wf neg (n := q) (Nat.lt_trans hq (by decide)) h1 h2) ?_; clear hp; rintro _ s rfl hp _; conv => whnf)
      obtain ⟨d2, e2, hd2⟩ := dmade_shape neg (q) sc
      rw [hd2]
      conv => whnf
      refine hp.storeW (vs := d2.cells) rfl (by repeat (first | exact Rm.here | apply Rm.there)) (Dc_same _ Dc.zero) rfl rfl rfl ?_
      clear hp
      intro s hp _
      conv => whnf
      refine hp.loadA (l := d2.cells) (by repeat (first | exact Has.here | apply Has.there | (apply Has.swap; repeat (first | exact HasR.here | apply HasR.there)))) rfl (by rfl) rfl rfl ?_
      conv => whnf
      exact ⟨hp.fr, rfl⟩
    | true =>
      rw [if_pos rfl]
      refine Sm.cond (v := true) rfl (fun _ => ?_) (fun h => by cases h)
      refine Sm.live [0, 3, 10, 11, 15] ?_
      conv => whnf
      refine Sm.seqW ?_
      conv => whnf
      refine ⟨[0, 0, 3, 7, 15, 15, 31, 127], by decide +kernel, by decide +kernel, ?_⟩
      conv => whnf
      refine hp.loadA (l := C2 (q % w64) (q / w64)) (by repeat (first | exact Has.here | apply Has.there | (apply Has.swap; repeat (first | exact HasR.here | apply HasR.there)))) rfl (by rfl) rfl rfl ?_
      conv => whnf
      (refine hp.rst.call (lOf_spec hp.rst.wf (a := 1) (by decide)) ?_; rintro _ s1 rfl h1 k1; (conv => whnf); refine hp.dkN h1 k1 ?_; clear hp h1 k1; intro s hp; conv => whnf)
      by_cases hq1 : q + 1 < w128
      · (refine hp.rst.call (lAdd_ok hp.rst.wf (a := q) (b := 1) hq (by decide) hq1) ?_; rintro _ s1 rfl h1 k1; (conv => whnf); refine hp.dkN h1 k1 ?_; clear hp h1 k1; intro s hp; conv => whnf)
        refine hp.rst.storeW (vs := C2 ((q + 1) % w64) ((q + 1) / w64)) rfl (by repeat (first | exact Rm.here | apply Rm.there)) (C2_same ..) rfl rfl rfl ?_
        intro s1 h1' l1
        conv => whnf
        refine hp.dkW h1' l1 ?_
        clear hp h1' l1
        intro s hp
        conv => whnf
        refine Sm.seqW ?_
        conv => whnf
        refine Sm.ofW ?_
        conv => whnf
        repeat (first | (refine Br.yes (by first | with_reducible rfl | with_reducible exact beq_self_eq_true _ | rfl) ?_; conv => whnf) | (refine Br.no (by first | with_reducible rfl | with_reducible exact bne_self_eq_false _ | rfl) ?_; conv => whnf))
        refine Sm.live [0, 3, 10, 11, 15] ?_
        conv => whnf
        refine Sm.ofW ?_
        conv => whnf
        refine hp.loadA (l := C2 ((q + 1) % w64) ((q + 1) / w64)) (by repeat (first | exact Has.here | apply Has.there | (apply Has.swap; repeat (first | exact HasR.here | apply HasR.there)))) rfl (by rfl) rfl rfl ?_
        conv => whnf
        (refine hp.call (lWide_spec hp.wf (n := q + 1) hq1) ?_; clear hp; rintro _ s rfl hp _; conv => whnf)
        (refine hp.call (qmade_spec hp.wf neg (n := q + 1) (Nat.lt_trans hq1 (by decide)) h1 h2) ?_; clear hp; rintro _ s rfl hp _; conv => whnf)
        obtain ⟨d2, e2, hd2⟩ := dmade_shape neg (q + 1) sc
        rw [hd2]
        conv => whnf
        refine hp.storeW (vs := d2.cells) rfl (by repeat (first | exact Rm.here | apply Rm.there)) (Dc_same _ Dc.zero) rfl rfl rfl ?_
        clear hp
        intro s hp _
        conv => whnf
        refine hp.loadA (l := d2.cells) (by repeat (first | exact Has.here | apply Has.there | (apply Has.swap; repeat (first | exact HasR.here | apply HasR.there)))) rfl (by rfl) rfl rfl ?_
        conv => whnf
        exact ⟨hp.fr, rfl⟩
      · (refine hp.rst.call (lAdd_no hp.rst.wf (a := q) (b := 1) hq (by decide) hq1) ?_; rintro _ s1 rfl h1 k1; (conv => whnf); refine hp.dkN h1 k1 ?_; clear hp h1 k1; intro s hp; conv => whnf)
        refine hp.rst.storeW (vs := C2 0 0) rfl (by repeat (first | exact Rm.here | apply Rm.there)) (C2_same ..) rfl rfl rfl ?_
        intro s1 h1' l1
        conv => whnf
        refine hp.dkW h1' l1 ?_
        clear hp h1' l1
        intro s hp
        conv => whnf
        refine Sm.seqW ?_
        conv => whnf
        refine Sm.ofW ?_
        conv => whnf
        repeat (first | (refine Br.yes (by first | with_reducible rfl | with_reducible exact beq_self_eq_true _ | rfl) ?_; conv => whnf) | (refine Br.no (by first | with_reducible rfl | with_reducible exact bne_self_eq_false _ | rfl) ?_; conv => whnf))
        rw [dmade_big hq1]
        refine hp.storeW (vs := Dc.zero.cells) rfl (by repeat (first | exact Rm.here | apply Rm.there)) (Dc_same _ Dc.zero) rfl rfl rfl ?_
        clear hp
        intro s hp _
        conv => whnf
        refine hp.loadA (l := Dc.zero.cells) (by repeat (first | exact Has.here | apply Has.there | (apply Has.swap; repeat (first | exact HasR.here | apply HasR.there)))) rfl (by rfl) rfl rfl ?_
        conv => whnf
        exact ⟨hp.fr, rfl⟩
  · (refine hp.call (lShort_no hp.wf (n := q) hq hqn) ?_; clear hp; rintro _ s rfl hp _; conv => whnf)
    refine hp.alloc (cs := C2 0 0) (e := 1) rfl rfl rfl rfl rfl ?_
    clear hp
    intro p15 s hp _
    conv => whnf
    refine hp.storeW (vs := C2 0 0) rfl (by repeat (first | exact Rm.here | apply Rm.there)) (C2_same ..) rfl rfl rfl ?_
    clear hp
    intro s hp _
    conv => whnf
    refine Sm.live [0, 3, 4, 7, 10, 11, 13, 15, 16] ?_
    conv => whnf
    refine Sm.seq ?_
    refine Sm.seqW ?_
    conv => whnf
    refine Sm.ofW ?_
    conv => whnf
    repeat (first | (refine Br.yes (by first | with_reducible rfl | with_reducible exact beq_self_eq_true _ | rfl) ?_; conv => whnf) | (refine Br.no (by first | with_reducible rfl | with_reducible exact bne_self_eq_false _ | rfl) ?_; conv => whnf))
    rw [dmade_big (by omega)]
    refine hp.storeW (vs := Dc.zero.cells) rfl (by repeat (first | exact Rm.here | apply Rm.there)) (Dc_same _ Dc.zero) rfl rfl rfl ?_
    clear hp
    intro s hp _
    conv => whnf
    refine hp.loadA (l := Dc.zero.cells) (by repeat (first | exact Has.here | apply Has.there | (apply Has.swap; repeat (first | exact HasR.here | apply HasR.there)))) rfl (by rfl) rfl rfl ?_
    conv => whnf
    exact ⟨hp.fr, rfl⟩
end Go.Ev
end

/- Rounding: are the arguments right? No condition. -/
noncomputable section
namespace Go.Ev
open Go.Proofs
set_option linter.unusedVariables false
set_option maxRecDepth 100000

theorem TD : SlT Tryd.prog 102 25 4 32 Dc.zero.val := ⟨Tryd.underlying102, ⟨_, rfl, rfl, rfl, rfl⟩, rfl, rfl, by decide, by decide⟩
def dcCells (l : List Dc) : List Value := l.flatMap Dc.cells
theorem dcCells_drop (l : List Dc) (i : Nat) : (dcCells l).drop (i * 4) = dcCells (l.drop i) := by
  induction i generalizing l with
  | zero => simp
  | succ i ih =>
    cases l with
    | nil => simp [dcCells]
    | cons r l =>
      show (Dc.cells r ++ dcCells l).drop _ = _
      rw [show (i + 1) * 4 = 4 + i * 4 by omega, ← List.drop_drop]
      show ((dcCells l).drop (i * 4)) = _
      rw [ih]; rfl
theorem dc_at {l : List Dc} {i : Nat} (h : i < l.length) : ((dcCells l).drop (i * 4)).take 4 = l[i].cells := by
  rw [dcCells_drop, List.drop_eq_getElem_cons h]
  rfl
theorem index_dc {s : St} {κ : Option Nat} {v : Value} {l : List Dc} (h : Sl s κ v 4 l.length (dcCells l)) {i : Nat} (hi : i < l.length) :
    ∃ a, evIndexAddr Tryd.prog 102 v (.int .i64 (i : Int)) = some (.pointer (some a)) ∧ evLoad Tryd.prog 25 (.pointer (some a)) s = some l[i].val := by
  rcases h.ex with ⟨rfl, h0, _, _⟩ | ⟨b, off, c, C, rfl, hc, hl, hs, hm⟩
  · omega
  · have hr : s.rd b = some C := by
      rcases hm with ⟨k, _, hm⟩ | ⟨_, hm⟩
      · exact hm.rd
      · exact hm.rd
    refine ⟨_, idx_at TD .i64 hi, ?_⟩
    unfold evLoad
    have hsl : sl C (off + i * 4) 4 = some l[i].cells := by
      obtain ⟨g1, g2, g3, _⟩ := sl_some hs
      have hle : i * 4 + 4 ≤ l.length * 4 := by omega
      have e : (List.drop (off + i * 4) C).take 4 = ((dcCells l).drop (i * 4)).take 4 := by
        rw [g2, List.drop_take, List.drop_drop, List.take_take, Nat.min_eq_left (by omega)]
      unfold sl
      rw [e, dc_at hi]
      rfl
    have hu : Tryd.prog.underlying 25 = _ := Tryd.underlying25
    have hi2 : ∃ q, Tryd.prog.info? 25 = some q ∧ q.size = 4 := ⟨_, rfl, rfl⟩
    obtain ⟨q, hq, hq2⟩ := hi2
    simp only [hr, hu, hq, hq2, hsl]
    rfl
def rightAll (l : List Dc) (sc mode : Int) : Bool := l.all Dc.right && (decide (sc ≥ 0) && (decide (sc ≤ 9) && (decide (mode ≥ 0) && decide (mode ≤ 4))))
theorem qright_spec {z : St} (wf : WF z) (sc mode : Int) {κ : Option Nat} {v : Value} {l : List Dc} (hv : Sl z κ v 4 l.length (dcCells l)) (hl : l.length ≤ 1000) (hc : ∀ d ∈ l, d.c < w128) :
    Cw Tryd.prog 69 [.int .i64 sc, .int .i64 mode, v] z fun r s' => K0 z s' ∧ r = .bool (rightAll l sc mode) := by
  obtain ⟨a, cp, rfl⟩ := hv.shape
  have hp : Hp (fun _ => False) z [slA κ (.slice a l.length cp) 4 l.length (dcCells l)] [] z := Hp.start _ wf _ (by simp; exact hv)
  refine Cw.enterS Tryd.func69 rfl rfl ?_
  refine Sm.seqW ?_
  conv => whnf
  refine Sm.seq ?_
  refine Sm.seqW ?_
  conv => whnf
  refine Sm.block ?_
  refine Sm.loop ?_
  refine Lp.ofS (α := Nat) (fun i => [(0, .int .i64 sc), (1, .int .i64 mode), (9, .slice a l.length cp), (10, .int .i64 (l.length : Int)), (11, .int .i64 (i : Int))])
    (fun i s' => i ≤ l.length ∧ (l.take i).all Dc.right = true ∧ Hp (fun _ => False) z [slA κ (.slice a l.length cp) 4 l.length (dcCells l)] [] s') (fun i => l.length - i) ?_ 0 (subK_ok (by refine ⟨rfl, rfl, rfl, rfl, rfl, trivial⟩)) ⟨Nat.zero_le _, rfl, hp⟩
  clear hp
  rintro i s ⟨hi, hall, hp⟩
  refine Sm.seqW ?_
  conv => whnf
  refine Sm.seqW ?_
  conv => whnf
  refine Br.mk (fun hq => ?_) (fun hq => ?_)
  · have hq : i < l.length := by have := of_decide_eq_true hq; omega
    have hci := hc _ (List.getElem_mem hq)
    conv => whnf
    refine Sm.seq (Sm.block ?_)
    refine Sm.seqW ?_
    conv => whnf
    obtain ⟨p, e1, e2⟩ := index_dc (hp.slR .here) hq
    refine Om.of _ e1 ?_
    conv => whnf
    refine Om.of _ e2 ?_
    conv => whnf
    clear e1 e2
    refine hp.alloc (cs := Dc.zero.cells) (e := 4) rfl rfl rfl rfl rfl ?_
    clear hp
    intro p8 s hp _
    conv => whnf
    refine hp.storeW (vs := l[i].cells) rfl (by repeat (first | exact Rm.here | apply Rm.there)) (Dc_same _ Dc.zero) rfl rfl rfl ?_
    clear hp
    intro s hp _
    conv => whnf
    refine Sm.seqW ?_
    conv => whnf
    refine hp.loadA (l := l[i].cells) (by repeat (first | exact Has.here | apply Has.there | (apply Has.swap; repeat (first | exact HasR.here | apply HasR.there)))) rfl (by rfl) rfl rfl ?_
    conv => whnf
    (refine hp.call (right_spec hp.wf l[i] hci) ?_; clear hp; rintro _ s rfl hp _; conv => whnf)
    cases hri : Dc.right l[i] with
    | true =>
      refine Sm.ofW ?_
      conv => whnf
      repeat (first | (refine Br.yes (by first | with_reducible rfl | with_reducible exact beq_self_eq_true _ | rfl) ?_; conv => whnf) | (refine Br.no (by first | with_reducible rfl | with_reducible exact bne_self_eq_false _ | rfl) ?_; conv => whnf))
      refine Sm.ofW ?_
      conv => whnf
      have ei : IntKind.i64.wrap ((i : Int) + 1) = ((i + 1 : Nat) : Int) := by rw [wi64 (by omega) (by omega)]; push_cast; rfl
      refine ⟨i + 1, by (show l.length - (i + 1) < l.length - i); omega, subK_ok (by refine ⟨rfl, rfl, rfl, rfl, congrArg (fun x => some (Value.int .i64 x)) ei, trivial⟩), hq, ?_, hp.pik (by repeat (first | exact Pik.nil | exact Pik.refl _ | exact Rm.here | apply Rm.there | apply Pik.cons | apply Pik.skip))⟩
      rw [List.take_succ_eq_append_getElem hq, List.all_append, hall]
      simp [hri]
    | false =>
      refine Sm.ofW ?_
      conv => whnf
      repeat (first | (refine Br.yes (by first | with_reducible rfl | with_reducible exact beq_self_eq_true _ | rfl) ?_; conv => whnf) | (refine Br.no (by first | with_reducible rfl | with_reducible exact bne_self_eq_false _ | rfl) ?_; conv => whnf))
      refine ⟨hp.fr, congrArg Value.bool ?_⟩
      unfold rightAll
      have : l.all Dc.right = false := by
        rw [List.all_eq_false]
        exact ⟨l[i], List.getElem_mem hq, by rw [hri]; decide⟩
      rw [this]; rfl
  · have hq : i = l.length := by have := of_decide_eq_false hq; omega
    subst hq
    rw [List.take_of_length_le (Nat.le_refl _)] at hall
    conv => whnf
    refine Sm.seqW ?_
    conv => whnf
    cases h1 : decide (sc ≥ 0) with
    | false =>
      repeat (first | (refine Br.yes (by first | with_reducible rfl | with_reducible exact beq_self_eq_true _ | rfl) ?_; conv => whnf) | (refine Br.no (by first | with_reducible rfl | with_reducible exact bne_self_eq_false _ | rfl) ?_; conv => whnf))
      refine Sm.ofW ?_
      conv => whnf
      exact ⟨hp.fr, congrArg Value.bool (by unfold rightAll; rw [hall, h1]; rfl)⟩
    | true =>
      repeat (first | (refine Br.yes (by first | with_reducible rfl | with_reducible exact beq_self_eq_true _ | rfl) ?_; conv => whnf) | (refine Br.no (by first | with_reducible rfl | with_reducible exact bne_self_eq_false _ | rfl) ?_; conv => whnf))
      cases h2 : decide (sc ≤ 9) with
      | false =>
        repeat (first | (refine Br.yes (by first | with_reducible rfl | with_reducible exact beq_self_eq_true _ | rfl) ?_; conv => whnf) | (refine Br.no (by first | with_reducible rfl | with_reducible exact bne_self_eq_false _ | rfl) ?_; conv => whnf))
        refine Sm.ofW ?_
        conv => whnf
        exact ⟨hp.fr, congrArg Value.bool (by unfold rightAll; rw [hall, h1, h2]; rfl)⟩
      | true =>
        repeat (first | (refine Br.yes (by first | with_reducible rfl | with_reducible exact beq_self_eq_true _ | rfl) ?_; conv => whnf) | (refine Br.no (by first | with_reducible rfl | with_reducible exact bne_self_eq_false _ | rfl) ?_; conv => whnf))
        cases h3 : decide (mode ≥ 0) with
        | false =>
          repeat (first | (refine Br.yes (by first | with_reducible rfl | with_reducible exact beq_self_eq_true _ | rfl) ?_; conv => whnf) | (refine Br.no (by first | with_reducible rfl | with_reducible exact bne_self_eq_false _ | rfl) ?_; conv => whnf))
          refine Sm.ofW ?_
          conv => whnf
          exact ⟨hp.fr, congrArg Value.bool (by unfold rightAll; rw [hall, h1, h2, h3]; rfl)⟩
        | true =>
          repeat (first | (refine Br.yes (by first | with_reducible rfl | with_reducible exact beq_self_eq_true _ | rfl) ?_; conv => whnf) | (refine Br.no (by first | with_reducible rfl | with_reducible exact bne_self_eq_false _ | rfl) ?_; conv => whnf))
          refine Sm.ofW ?_
          conv => whnf
          exact ⟨hp.fr, congrArg Value.bool (by unfold rightAll; rw [hall, h1, h2, h3]; rfl)⟩
end Go.Ev
end

/- Rounding: Quant. No condition. -/
noncomputable section
namespace Go.Ev
open Go.Proofs
set_option linter.unusedVariables false
set_option maxRecDepth 100000

def quantF (d : Dc) (sc mode : Int) : Value := if rightAll [d] sc mode = false then errD 1 else if d.scale ≤ sc then scaledF d sc else dmade d.neg (roundN d.neg d.c (10 ^ (d.scale - sc).toNat) mode) sc
theorem scaledF_shape (d : Dc) (sc : Int) : ∃ (d' : Dc) (e : Int), scaledF d sc = .tuple #[d'.val, .int .i64 e] := by
  unfold scaledF
  split
  · exact ⟨_, _, rfl⟩
  · exact dmade_shape _ _ _
theorem rightAll_1 {d : Dc} {sc mode : Int} (h : rightAll [d] sc mode = true) : d.right = true ∧ 0 ≤ sc ∧ sc ≤ 9 := by
  unfold rightAll at h
  simp only [List.all_cons, List.all_nil, Bool.and_true, Bool.and_eq_true, decide_eq_true_eq] at h
  exact ⟨h.1, h.2.1, h.2.2.1⟩
theorem quant_spec {z : St} (wf : WF z) (d : Dc) (hd : d.c < w128) (sc mode : Int) :
    Cw Tryd.prog 36 [d.val, .int .i64 sc, .int .i64 mode] z fun r s' => K0 z s' ∧ r = quantF d sc mode := by
  have hp : Hp (fun _ => False) z [] [] z := Hp.start _ wf _ (by simp)
  refine Cw.enterS Tryd.func36 rfl rfl ?_
  refine Sm.seqW ?_
  conv => whnf
  refine hp.var (cs := d.cells) (e := 4) rfl rfl ?_
  clear hp
  intro p3 s hp _
  conv => whnf
  refine hp.alloc (cs := Dc.zero.cells) (e := 4) rfl rfl rfl rfl rfl ?_
  clear hp
  intro p6 s hp _
  conv => whnf
  refine Sm.live [1, 2, 3, 6, 7] ?_
  conv => whnf
  refine Sm.seq ?_
  refine Sm.seqW ?_
  conv => whnf
  refine hp.loadA (l := d.cells) (by repeat (first | exact Has.here | apply Has.there | (apply Has.swap; repeat (first | exact HasR.here | apply HasR.there)))) rfl (by rfl) rfl rfl ?_
  conv => whnf
  refine hp.lit (cs := d.cells) (e := 4) (by rfl) ?_
  clear hp
  intro b1 s hp _
  conv => whnf
  have hs1 : Sl s (some b1) (.slice (some ⟨b1, 0, none⟩) 1 1) 4 [d].length (dcCells [d]) := by
    have := hp.blkSl (n := 1) (m := (by repeat (first | exact Has.here | apply Has.there | (apply Has.swap; repeat (first | exact HasR.here | apply HasR.there))) : Has (blkA b1 b1 d.cells 4) _ _)) rfl
    have e : dcCells [d] = d.cells := by simp [dcCells]
    rw [e]; exact this
  (refine hp.call (qright_spec hp.wf sc mode hs1 (by simp) (by simp; exact hd)) ?_; clear hp; rintro _ s rfl hp _; conv => whnf)
  clear hs1
  cases hr : rightAll [d] sc mode with
  | false =>
    refine Sm.ofW ?_
    conv => whnf
    repeat (first | (refine Br.yes (by first | with_reducible rfl | with_reducible exact beq_self_eq_true _ | rfl) ?_; conv => whnf) | (refine Br.no (by first | with_reducible rfl | with_reducible exact bne_self_eq_false _ | rfl) ?_; conv => whnf))
    unfold quantF
    rw [if_pos hr]
    refine hp.storeW (vs := Dc.zero.cells) rfl (by repeat (first | exact Rm.here | apply Rm.there)) (Dc_same _ Dc.zero) rfl rfl rfl ?_
    clear hp
    intro s hp _
    conv => whnf
    refine hp.loadA (l := Dc.zero.cells) (by repeat (first | exact Has.here | apply Has.there | (apply Has.swap; repeat (first | exact HasR.here | apply HasR.there)))) rfl (by rfl) rfl rfl ?_
    conv => whnf
    exact ⟨hp.fr, rfl⟩
  | true =>
    refine Sm.ofW ?_
    conv => whnf
    repeat (first | (refine Br.yes (by first | with_reducible rfl | with_reducible exact beq_self_eq_true _ | rfl) ?_; conv => whnf) | (refine Br.no (by first | with_reducible rfl | with_reducible exact bne_self_eq_false _ | rfl) ?_; conv => whnf))
    unfold quantF
    rw [if_neg (by rw [hr]; decide)]
    obtain ⟨g1, g2, g3⟩ := rightAll_1 hr
    obtain ⟨g4, g5, g6⟩ := Dc.right_c g1
    clear hr
    obtain ⟨ng, n, e⟩ := d
    simp only at hd g4 g5 g6 ⊢
    refine Sm.live [1, 2, 3, 6] ?_
    conv => whnf
    refine Sm.seq ?_
    refine Sm.seqW ?_
    conv => whnf
    refine hp.load (off := 3) (v := .int .i64 e) (by repeat (first | exact Has.here | apply Has.there | (apply Has.swap; repeat (first | exact HasR.here | apply HasR.there)))) (by rfl) rfl rfl rfl ?_
    conv => whnf
    by_cases hse : e ≤ sc
    · rw [if_pos hse]
      refine Sm.cond (v := true) (congrArg (fun x => some (Value.bool x)) (decide_eq_true hse)) (fun _ => ?_) (fun h => by cases h)
      refine Sm.seqW ?_
      conv => whnf
      refine hp.loadA (l := Dc.cells ⟨ng, n, e⟩) (by repeat (first | exact Has.here | apply Has.there | (apply Has.swap; repeat (first | exact HasR.here | apply HasR.there)))) rfl (by rfl) rfl rfl ?_
      conv => whnf
      (refine hp.call (dscaled_spec hp.wf ⟨ng, n, e⟩ hd sc) ?_; clear hp; rintro _ s rfl hp _; conv => whnf)
      obtain ⟨d2, e2, hd2⟩ := scaledF_shape ⟨ng, n, e⟩ sc
      rw [hd2]
      conv => whnf
      refine hp.storeW (vs := d2.cells) rfl (by repeat (first | exact Rm.here | apply Rm.there)) (Dc_same _ Dc.zero) rfl rfl rfl ?_
      clear hp
      intro s hp _
      conv => whnf
      refine Sm.ofW ?_
      conv => whnf
      refine hp.loadA (l := d2.cells) (by repeat (first | exact Has.here | apply Has.there | (apply Has.swap; repeat (first | exact HasR.here | apply HasR.there)))) rfl (by rfl) rfl rfl ?_
      conv => whnf
      exact ⟨hp.fr, rfl⟩
    · rw [if_neg hse]
      refine Sm.ofW ?_
      conv => whnf
      refine Br.no (decide_eq_false hse) ?_
      conv => whnf
      obtain ⟨k, hk⟩ : ∃ k : Nat, (e - sc).toNat = k := ⟨_, rfl⟩
      rw [hk]
      have hk1 : IntKind.i64.wrap (e - sc) = (k : Int) := by rw [wi64 (by omega) (by omega)]; omega
      have hk2 : k ≤ 9 := by omega
      refine Sm.live [1, 2, 3, 6] ?_
      conv => whnf
      refine Sm.seqW ?_
      conv => whnf
      refine ⟨[0, 1, 0, 4, 12, 0, 32, 0, 224, 508, 0, 0, 4095, 8191, 8191, 32767, 65535], by decide +kernel, by decide +kernel, ?_⟩
      conv => whnf
      refine hp.load (off := 0) (v := .bool ng) (by repeat (first | exact Has.here | apply Has.there | (apply Has.swap; repeat (first | exact HasR.here | apply HasR.there)))) (by rfl) rfl rfl rfl ?_
      conv => whnf
      refine hp.loadA (off := 1) (l := C2 (n % w64) (n / w64)) (by repeat (first | exact Has.here | apply Has.there | (apply Has.swap; repeat (first | exact HasR.here | apply HasR.there)))) rfl (by rfl) rfl rfl ?_
      conv => whnf
      (refine hp.rst.call (lWide_spec hp.rst.wf (n := n) hd) ?_; rintro _ s1 rfl h1 k1; (conv => whnf); refine hp.dkN h1 k1 ?_; clear hp h1 k1; intro s hp; conv => whnf)
      refine hp.load (off := 3) (v := .int .i64 e) (by repeat (first | exact Has.here | apply Has.there | (apply Has.swap; repeat (first | exact HasR.here | apply HasR.there)))) (by rfl) rfl rfl rfl ?_
      conv => whnf
      rw [hk1]
      (refine hp.rst.call (qten_spec hp.rst.wf (k := k) (by omega)) ?_; rintro _ s1 rfl h1 k1; (conv => whnf); refine hp.dkN h1 k1 ?_; clear hp h1 k1; intro s hp; conv => whnf)
      (refine hp.rst.call (rounded_spec hp.rst.wf ng (n := n) (b := 10 ^ k) (Nat.lt_trans hd (by decide)) (ten_lt (by omega)) (Nat.pow_pos (by decide)) g2 g3 mode) ?_; rintro _ s1 rfl h1 k1; (conv => whnf); refine hp.dkN h1 k1 ?_; clear hp h1 k1; intro s hp; conv => whnf)
      obtain ⟨d2, e2, hd2⟩ := dmade_shape ng (roundN ng n (10 ^ k) mode) sc
      rw [hd2]
      conv => whnf
      refine hp.rst.storeW (vs := d2.cells) rfl (by repeat (first | exact Rm.here | apply Rm.there)) (Dc_same _ Dc.zero) rfl rfl rfl ?_
      intro s1 h1 l1
      conv => whnf
      refine hp.dkW h1 l1 ?_
      clear hp h1 l1
      intro s hp
      conv => whnf
      refine Sm.ofW ?_
      conv => whnf
      refine hp.loadA (l := d2.cells) (by repeat (first | exact Has.here | apply Has.there | (apply Has.swap; repeat (first | exact HasR.here | apply HasR.there)))) rfl (by rfl) rfl rfl ?_
      conv => whnf
      exact ⟨hp.fr, rfl⟩
end Go.Ev
end

/- Rounding: Div. No condition. -/
noncomputable section
namespace Go.Ev
open Go.Proofs
set_option linter.unusedVariables false
set_option maxRecDepth 100000

/-- The divisor, at the scale of the dividend; the greatest number where it is too large. -/
def byF (n : Nat) : Nat := if n < w128 then n else w128 - 1
def divF (a b : Dc) (sc mode : Int) : Value :=
  if rightAll [a, b] sc mode = false then errD 1 else if b.c = 0 then errD 4 else
  if 0 ≤ sc + b.scale - a.scale then dmade (a.neg != b.neg) (roundN (a.neg != b.neg) (a.c * 10 ^ (sc + b.scale - a.scale).toNat) b.c mode) sc
  else dmade (a.neg != b.neg) (roundN (a.neg != b.neg) a.c (byF (b.c * 10 ^ (a.scale - sc - b.scale).toNat)) mode) sc
theorem rightAll_2 {a b : Dc} {sc mode : Int} (h : rightAll [a, b] sc mode = true) : a.right = true ∧ b.right = true ∧ 0 ≤ sc ∧ sc ≤ 9 := by
  unfold rightAll at h
  simp only [List.all_cons, List.all_nil, Bool.and_true, Bool.and_eq_true, decide_eq_true_eq] at h
  exact ⟨h.1.1, h.1.2, h.2.1, h.2.2.1⟩
theorem div_spec {z : St} (wf : WF z) (a b : Dc) (ha : a.c < w128) (hb : b.c < w128) (sc mode : Int) :
    Cw Tryd.prog 37 [a.val, b.val, .int .i64 sc, .int .i64 mode] z fun r s' => K0 z s' ∧ r = divF a b sc mode := by
  have hp : Hp (fun _ => False) z [] [] z := Hp.start _ wf _ (by simp)
  refine Cw.enterS Tryd.func37 rfl rfl ?_
  refine Sm.seqW ?_
  conv => whnf
  refine hp.var (cs := a.cells) (e := 4) rfl rfl ?_
  clear hp
  intro p4 s hp _
  conv => whnf
  refine hp.var (cs := b.cells) (e := 4) rfl rfl ?_
  clear hp
  intro p5 s hp _
  conv => whnf
  refine hp.alloc (cs := Dc.zero.cells) (e := 4) rfl rfl rfl rfl rfl ?_
  clear hp
  intro p8 s hp _
  conv => whnf
  refine Sm.live [2, 3, 4, 5, 8, 9] ?_
  conv => whnf
  refine Sm.seq (Sm.block ?_)
  refine Sm.seqW ?_
  conv => whnf
  refine hp.loadA (l := a.cells) (by repeat (first | exact Has.here | apply Has.there | (apply Has.swap; repeat (first | exact HasR.here | apply HasR.there)))) rfl (by rfl) rfl rfl ?_
  conv => whnf
  refine hp.loadA (l := b.cells) (by repeat (first | exact Has.here | apply Has.there | (apply Has.swap; repeat (first | exact HasR.here | apply HasR.there)))) rfl (by rfl) rfl rfl ?_
  conv => whnf
  refine hp.lit (cs := a.cells ++ b.cells) (e := 4) (by rfl) ?_
  clear hp
  intro b1 s hp _
  conv => whnf
  have hs1 : Sl s (some b1) (.slice (some ⟨b1, 0, none⟩) 2 2) 4 [a, b].length (dcCells [a, b]) := by
    have := hp.blkSl (n := 2) (m := (by repeat (first | exact Has.here | apply Has.there | (apply Has.swap; repeat (first | exact HasR.here | apply HasR.there))) : Has (blkA b1 b1 (a.cells ++ b.cells) 4) _ _)) rfl
    have e : dcCells [a, b] = a.cells ++ b.cells := by simp [dcCells]
    rw [e]; exact this
  (refine hp.call (qright_spec hp.wf sc mode hs1 (by simp) (by simp; exact ⟨ha, hb⟩)) ?_; clear hp; rintro _ s rfl hp _; conv => whnf)
  clear hs1
  cases hr : rightAll [a, b] sc mode with
  | false =>
    refine Sm.ofW ?_
    conv => whnf
    repeat (first | (refine Br.yes (by first | with_reducible rfl | with_reducible exact beq_self_eq_true _ | rfl) ?_; conv => whnf) | (refine Br.no (by first | with_reducible rfl | with_reducible exact bne_self_eq_false _ | rfl) ?_; conv => whnf))
    unfold divF
    rw [if_pos hr]
    refine hp.storeW (vs := Dc.zero.cells) rfl (by repeat (first | exact Rm.here | apply Rm.there)) (Dc_same _ Dc.zero) rfl rfl rfl ?_
    clear hp
    intro s hp _
    conv => whnf
    refine hp.loadA (l := Dc.zero.cells) (by repeat (first | exact Has.here | apply Has.there | (apply Has.swap; repeat (first | exact HasR.here | apply HasR.there)))) rfl (by rfl) rfl rfl ?_
    conv => whnf
    exact ⟨hp.fr, rfl⟩
  | true =>
    refine Sm.cond (v := false) rfl (fun h => by cases h) (fun _ => ?_)
    obtain ⟨g1, g2, g5, g6⟩ := rightAll_2 hr
    obtain ⟨x1, x2, x3⟩ := Dc.right_c g1
    obtain ⟨y1, y2, y3⟩ := Dc.right_c g2
    refine Sm.live [2, 3, 4, 5, 8] ?_
    conv => whnf
    refine Sm.seqW ?_
    conv => whnf
    refine hp.loadA (l := b.cells) (by repeat (first | exact Has.here | apply Has.there | (apply Has.swap; repeat (first | exact HasR.here | apply HasR.there)))) rfl (by rfl) rfl rfl ?_
    conv => whnf
    (refine hp.call (dsign_spec hp.wf b hb) ?_; clear hp; rintro _ s rfl hp _; conv => whnf)
    have hz : (signF b == 0) = decide (b.c = 0) := by
      unfold signF
      by_cases h : b.c = 0
      · rw [if_pos (.inr h)]; simp [h]
      · rw [if_neg (by rw [g2]; simp [h])]
        split <;> simp [h]
    rw [hz]
    unfold divF
    rw [if_neg (by rw [hr]; decide)]
    by_cases hb0 : b.c = 0
    · rw [if_pos hb0, decide_eq_true hb0]
      refine Sm.ofW ?_
      conv => whnf
      repeat (first | (refine Br.yes (by first | with_reducible rfl | with_reducible exact beq_self_eq_true _ | rfl) ?_; conv => whnf) | (refine Br.no (by first | with_reducible rfl | with_reducible exact bne_self_eq_false _ | rfl) ?_; conv => whnf))
      refine hp.storeW (vs := Dc.zero.cells) rfl (by repeat (first | exact Rm.here | apply Rm.there)) (Dc_same _ Dc.zero) rfl rfl rfl ?_
      clear hp
      intro s hp _
      conv => whnf
      refine hp.loadA (l := Dc.zero.cells) (by repeat (first | exact Has.here | apply Has.there | (apply Has.swap; repeat (first | exact HasR.here | apply HasR.there)))) rfl (by rfl) rfl rfl ?_
      conv => whnf
      exact ⟨hp.fr, rfl⟩
    rw [if_neg hb0, decide_eq_false hb0]
    have hbp : 0 < b.c := Nat.pos_of_ne_zero hb0
    clear hz hr
    obtain ⟨an, ac, ae⟩ := a
    obtain ⟨bn, bc, be⟩ := b
    simp only at ha hb x1 x2 x3 y1 y2 y3 hb0 hbp ⊢
    refine Sm.ofW ?_
    conv => whnf
    repeat (first | (refine Br.yes (by first | with_reducible rfl | with_reducible exact beq_self_eq_true _ | rfl) ?_; conv => whnf) | (refine Br.no (by first | with_reducible rfl | with_reducible exact bne_self_eq_false _ | rfl) ?_; conv => whnf))
    refine Sm.live [2, 3, 4, 5, 8] ?_
    conv => whnf
    refine Sm.seqW ?_
    conv => whnf
    refine ⟨[0, 1, 0, 4, 15, 0, 0, 64, 224, 0, 512, 2016, 31, 8191], by decide +kernel, by decide +kernel, ?_⟩
    conv => whnf
    refine hp.load (off := 0) (v := .bool an) (by repeat (first | exact Has.here | apply Has.there | (apply Has.swap; repeat (first | exact HasR.here | apply HasR.there)))) (by rfl) rfl rfl rfl ?_
    conv => whnf
    refine hp.load (off := 0) (v := .bool bn) (by repeat (first | exact Has.here | apply Has.there | (apply Has.swap; repeat (first | exact HasR.here | apply HasR.there)))) (by rfl) rfl rfl rfl ?_
    conv => whnf
    refine Om.of (.bool (an != bn)) (by cases an <;> cases bn <;> rfl) ?_
    conv => whnf
    refine hp.load (off := 3) (v := .int .i64 be) (by repeat (first | exact Has.here | apply Has.there | (apply Has.swap; repeat (first | exact HasR.here | apply HasR.there)))) (by rfl) rfl rfl rfl ?_
    conv => whnf
    refine hp.load (off := 3) (v := .int .i64 ae) (by repeat (first | exact Has.here | apply Has.there | (apply Has.swap; repeat (first | exact HasR.here | apply HasR.there)))) (by rfl) rfl rfl rfl ?_
    conv => whnf
    have em : IntKind.i64.wrap (IntKind.i64.wrap (sc + be) - ae) = sc + be - ae := by rw [wi64 (n := sc + be) (by omega) (by omega), wi64 (by omega) (by omega)]
    rw [em]
    refine Sm.live [2, 3, 4, 5, 8, 10, 11] ?_
    conv => whnf
    refine Sm.seq ?_
    refine Sm.seqW ?_
    conv => whnf
    by_cases hm : 0 ≤ sc + be - ae
    · rw [if_pos hm]
      obtain ⟨k, hk⟩ : ∃ k : Nat, (sc + be - ae).toNat = k := ⟨_, rfl⟩
      rw [hk]
      have hk1 : sc + be - ae = (k : Int) := by omega
      have hk2 : k ≤ 18 := by omega
      rw [hk1]
      refine Sm.cond (v := true) (congrArg (fun x => some (Value.bool x)) (decide_eq_true (by omega))) (fun _ => ?_) (fun h => by cases h)
      refine Sm.live [2, 3, 4, 5, 8, 10, 11] ?_
      conv => whnf
      refine Sm.seqW ?_
      conv => whnf
      refine ⟨[0, 0, 2, 0, 8, 30, 0, 64, 0, 0, 1023, 2047, 2047, 8191, 16383], by decide +kernel, by decide +kernel, ?_⟩
      conv => whnf
      have hN : ac * 10 ^ k < w256 := Nat.lt_of_lt_of_le (Nat.mul_lt_mul'' ha (ten_lt (k := k) (by omega))) (by decide)
      refine hp.loadA (off := 1) (l := C2 (ac % w64) (ac / w64)) (by repeat (first | exact Has.here | apply Has.there | (apply Has.swap; repeat (first | exact HasR.here | apply HasR.there)))) rfl (by rfl) rfl rfl ?_
      conv => whnf
      (refine hp.rst.call (qten_spec hp.rst.wf (k := k) (by omega)) ?_; rintro _ s1 rfl h1 k1; (conv => whnf); refine hp.dkN h1 k1 ?_; clear hp h1 k1; intro s hp; conv => whnf)
      (refine hp.rst.call (lMul_spec hp.rst.wf (a := ac) (b := 10 ^ k) ha (ten_lt (by omega))) ?_; rintro _ s1 rfl h1 k1; (conv => whnf); refine hp.dkN h1 k1 ?_; clear hp h1 k1; intro s hp; conv => whnf)
      refine hp.loadA (off := 1) (l := C2 (bc % w64) (bc / w64)) (by repeat (first | exact Has.here | apply Has.there | (apply Has.swap; repeat (first | exact HasR.here | apply HasR.there)))) rfl (by rfl) rfl rfl ?_
      conv => whnf
      (refine hp.rst.call (rounded_spec hp.rst.wf (an != bn) (n := ac * 10 ^ k) (b := bc) hN hb hbp g5 g6 mode) ?_; rintro _ s1 rfl h1 k1; (conv => whnf); refine hp.dkN h1 k1 ?_; clear hp h1 k1; intro s hp; conv => whnf)
      obtain ⟨d2, e2, hd2⟩ := dmade_shape (an != bn) (roundN (an != bn) (ac * 10 ^ k) bc mode) sc
      rw [hd2]
      conv => whnf
      refine hp.rst.storeW (vs := d2.cells) rfl (by repeat (first | exact Rm.here | apply Rm.there)) (Dc_same _ Dc.zero) rfl rfl rfl ?_
      intro s1 h1 l1
      conv => whnf
      refine hp.dkW h1 l1 ?_
      clear hp h1 l1
      intro s hp
      conv => whnf
      refine Sm.ofW ?_
      conv => whnf
      refine hp.loadA (l := d2.cells) (by repeat (first | exact Has.here | apply Has.there | (apply Has.swap; repeat (first | exact HasR.here | apply HasR.there)))) rfl (by rfl) rfl rfl ?_
      conv => whnf
      exact ⟨hp.fr, rfl⟩
    · rw [if_neg hm]
      refine Sm.ofW ?_
      conv => whnf
      refine Br.no (decide_eq_false hm) ?_
      conv => whnf
      obtain ⟨k, hk⟩ : ∃ k : Nat, (ae - sc - be).toNat = k := ⟨_, rfl⟩
      rw [hk]
      have hk1 : IntKind.i64.wrap (0 - (sc + be - ae)) = (k : Int) := by rw [wi64 (by omega) (by omega)]; omega
      have hk2 : k ≤ 9 := by omega
      refine Sm.live [2, 3, 4, 5, 8, 10, 11] ?_
      conv => whnf
      refine Sm.seqW ?_
      conv => whnf
      refine ⟨[0, 1, 0, 4, 12, 31, 63, 127, 255, 255, 0, 1535, 4095], by decide +kernel, by decide +kernel, ?_⟩
      conv => whnf
      have hN : bc * 10 ^ k < w256 := Nat.lt_of_lt_of_le (Nat.mul_lt_mul'' hb (ten_lt (k := k) (by omega))) (by decide)
      have hNp : 0 < bc * 10 ^ k := Nat.mul_pos hbp (Nat.pow_pos (by decide))
      refine hp.loadA (off := 1) (l := C2 (bc % w64) (bc / w64)) (by repeat (first | exact Has.here | apply Has.there | (apply Has.swap; repeat (first | exact HasR.here | apply HasR.there)))) rfl (by rfl) rfl rfl ?_
      conv => whnf
      rw [hk1]
      (refine hp.rst.call (qten_spec hp.rst.wf (k := k) (by omega)) ?_; rintro _ s1 rfl h1 k1; (conv => whnf); refine hp.dkN h1 k1 ?_; clear hp h1 k1; intro s hp; conv => whnf)
      (refine hp.rst.call (lMul_spec hp.rst.wf (a := bc) (b := 10 ^ k) hb (ten_lt (by omega))) ?_; rintro _ s1 rfl h1 k1; (conv => whnf); refine hp.dkN h1 k1 ?_; clear hp h1 k1; intro s hp; conv => whnf)
      generalize bc * 10 ^ k = N at hN hNp ⊢
      by_cases hlt : N < w128
      · have hby : byF N = N := if_pos hlt
        rw [hby]
        (refine hp.rst.call (lShort_ok hp.rst.wf (n := N) hlt) ?_; rintro _ s1 rfl h1 k1; (conv => whnf); refine hp.dkN h1 k1 ?_; clear hp h1 k1; intro s hp; conv => whnf)
        refine hp.rst.alloc (cs := C2 0 0) (e := 1) rfl rfl rfl rfl rfl ?_
        intro p12 s1 h1 k1
        conv => whnf
        refine hp.dkN h1 k1 ?_
        clear hp h1 k1
        intro s hp
        conv => whnf
        refine hp.rst.storeW (vs := C2 (N % w64) (N / w64)) rfl (by repeat (first | exact Rm.here | apply Rm.there)) (C2_same ..) rfl rfl rfl ?_
        intro s1 h1 l1
        conv => whnf
        refine hp.dkW h1 l1 ?_
        clear hp h1 l1
        intro s hp
        conv => whnf
        refine Sm.seq ?_
        refine Sm.seqW ?_
        conv => whnf
        refine Sm.ofW ?_
        conv => whnf
        repeat (first | (refine Br.yes (by first | with_reducible rfl | with_reducible exact beq_self_eq_true _ | rfl) ?_; conv => whnf) | (refine Br.no (by first | with_reducible rfl | with_reducible exact bne_self_eq_false _ | rfl) ?_; conv => whnf))
        refine Sm.live [2, 3, 4, 8, 10, 12] ?_
        conv => whnf
        refine Sm.seqW ?_
        conv => whnf
        refine ⟨[0, 0, 2, 6, 0, 0, 0, 127, 255, 255, 1023, 2047], by decide +kernel, by decide +kernel, ?_⟩
        conv => whnf
        refine hp.loadA (off := 1) (l := C2 (ac % w64) (ac / w64)) (by repeat (first | exact Has.here | apply Has.there | (apply Has.swap; repeat (first | exact HasR.here | apply HasR.there)))) rfl (by rfl) rfl rfl ?_
        conv => whnf
        (refine hp.rst.call (lWide_spec hp.rst.wf (n := ac) ha) ?_; rintro _ s1 rfl h1 k1; (conv => whnf); refine hp.dkN h1 k1 ?_; clear hp h1 k1; intro s hp; conv => whnf)
        refine hp.loadA (l := C2 (N % w64) (N / w64)) (by repeat (first | exact Has.here | apply Has.there | (apply Has.swap; repeat (first | exact HasR.here | apply HasR.there)))) rfl (by rfl) rfl rfl ?_
        conv => whnf
        (refine hp.rst.call (rounded_spec hp.rst.wf (an != bn) (n := ac) (b := N) (Nat.lt_trans ha (by decide)) hlt hNp g5 g6 mode) ?_; rintro _ s1 rfl h1 k1; (conv => whnf); refine hp.dkN h1 k1 ?_; clear hp h1 k1; intro s hp; conv => whnf)
        obtain ⟨d2, e2, hd2⟩ := dmade_shape (an != bn) (roundN (an != bn) ac N mode) sc
        rw [hd2]
        conv => whnf
        refine hp.rst.storeW (vs := d2.cells) rfl (by repeat (first | exact Rm.here | apply Rm.there)) (Dc_same _ Dc.zero) rfl rfl rfl ?_
        intro s1 h1 l1
        conv => whnf
        refine hp.dkW h1 l1 ?_
        clear hp h1 l1
        intro s hp
        conv => whnf
        refine Sm.ofW ?_
        conv => whnf
        refine hp.loadA (l := d2.cells) (by repeat (first | exact Has.here | apply Has.there | (apply Has.swap; repeat (first | exact HasR.here | apply HasR.there)))) rfl (by rfl) rfl rfl ?_
        conv => whnf
        exact ⟨hp.fr, rfl⟩
      · have hby : byF N = w128 - 1 := if_neg hlt
        rw [hby]
        (refine hp.rst.call (lShort_no hp.rst.wf (n := N) hlt hN) ?_; rintro _ s1 rfl h1 k1; (conv => whnf); refine hp.dkN h1 k1 ?_; clear hp h1 k1; intro s hp; conv => whnf)
        refine hp.rst.alloc (cs := C2 0 0) (e := 1) rfl rfl rfl rfl rfl ?_
        intro p12 s1 h1 k1
        conv => whnf
        refine hp.dkN h1 k1 ?_
        clear hp h1 k1
        intro s hp
        conv => whnf
        refine hp.rst.storeW (vs := C2 0 0) rfl (by repeat (first | exact Rm.here | apply Rm.there)) (C2_same ..) rfl rfl rfl ?_
        intro s1 h1 l1
        conv => whnf
        refine hp.dkW h1 l1 ?_
        clear hp h1 l1
        intro s hp
        conv => whnf
        refine Sm.seq ?_
        refine Sm.seqW ?_
        conv => whnf
        refine Sm.ofW ?_
        conv => whnf
        repeat (first | (refine Br.yes (by first | with_reducible rfl | with_reducible exact beq_self_eq_true _ | rfl) ?_; conv => whnf) | (refine Br.no (by first | with_reducible rfl | with_reducible exact bne_self_eq_false _ | rfl) ?_; conv => whnf))
        refine hp.storeW (vs := C2 18446744073709551615 18446744073709551615) rfl (by repeat (first | exact Rm.here | apply Rm.there)) (C2_same ..) rfl rfl rfl ?_
        clear hp
        intro s hp _
        replace hp := hp.as (a' := blkA p12 p12 (C2 ((w128 - 1) % w64) ((w128 - 1) / w64)) 1) (by repeat (first | exact Rm.here | apply Rm.there)) (fun h => by
          have e1 : (w128 - 1) % w64 = 18446744073709551615 := by decide
          have e2 : (w128 - 1) / w64 = 18446744073709551615 := by decide
          rw [e1, e2]; exact h) (fun _ h => h)
        generalize hM : w128 - 1 = M at hp ⊢
        have hM1 : M < w128 := by rw [← hM]; decide
        have hM2 : 0 < M := by rw [← hM]; decide
        conv => whnf
        refine Sm.live [2, 3, 4, 8, 10, 12] ?_
        conv => whnf
        refine Sm.seqW ?_
        conv => whnf
        refine ⟨[0, 0, 2, 6, 0, 0, 0, 127, 255, 255, 1023, 2047], by decide +kernel, by decide +kernel, ?_⟩
        conv => whnf
        refine hp.loadA (off := 1) (l := C2 (ac % w64) (ac / w64)) (by repeat (first | exact Has.here | apply Has.there | (apply Has.swap; repeat (first | exact HasR.here | apply HasR.there)))) rfl (by rfl) rfl rfl ?_
        conv => whnf
        (refine hp.rst.call (lWide_spec hp.rst.wf (n := ac) ha) ?_; rintro _ s1 rfl h1 k1; (conv => whnf); refine hp.dkN h1 k1 ?_; clear hp h1 k1; intro s hp; conv => whnf)
        refine hp.loadA (l := C2 (M % w64) (M / w64)) (by repeat (first | exact Has.here | apply Has.there | (apply Has.swap; repeat (first | exact HasR.here | apply HasR.there)))) rfl (by rfl) rfl rfl ?_
        conv => whnf
        (refine hp.rst.call (rounded_spec hp.rst.wf (an != bn) (n := ac) (b := M) (Nat.lt_trans ha (by decide)) hM1 hM2 g5 g6 mode) ?_; rintro _ s1 rfl h1 k1; (conv => whnf); refine hp.dkN h1 k1 ?_; clear hp h1 k1; intro s hp; conv => whnf)
        obtain ⟨d2, e2, hd2⟩ := dmade_shape (an != bn) (roundN (an != bn) ac M mode) sc
        rw [hd2]
        conv => whnf
        refine hp.rst.storeW (vs := d2.cells) rfl (by repeat (first | exact Rm.here | apply Rm.there)) (Dc_same _ Dc.zero) rfl rfl rfl ?_
        intro s1 h1 l1
        conv => whnf
        refine hp.dkW h1 l1 ?_
        clear hp h1 l1
        intro s hp
        conv => whnf
        refine Sm.ofW ?_
        conv => whnf
        refine hp.loadA (l := d2.cells) (by repeat (first | exact Has.here | apply Has.there | (apply Has.swap; repeat (first | exact HasR.here | apply HasR.there)))) rfl (by rfl) rfl rfl ?_
        conv => whnf
        exact ⟨hp.fr, rfl⟩
end Go.Ev
end

/- Rounding: Times. No condition. -/
noncomputable section
namespace Go.Ev
open Go.Proofs
set_option linter.unusedVariables false
set_option maxRecDepth 100000

def timesF (a b : Dc) (sc mode : Int) : Value :=
  if rightAll [a, b] sc mode = false then errD 1 else
  if sc - a.scale - b.scale < 0 then dmade (a.neg != b.neg) (roundN (a.neg != b.neg) (a.c * b.c) (10 ^ (a.scale + b.scale - sc).toNat) mode) sc
  else if a.c * b.c < 10 ^ 30 then dmade (a.neg != b.neg) (a.c * b.c * 10 ^ (sc - a.scale - b.scale).toNat) sc else errD 3
theorem times_spec {z : St} (wf : WF z) (a b : Dc) (ha : a.c < w128) (hb : b.c < w128) (sc mode : Int) :
    Cw Tryd.prog 38 [a.val, b.val, .int .i64 sc, .int .i64 mode] z fun r s' => K0 z s' ∧ r = timesF a b sc mode := by
  have hp : Hp (fun _ => False) z [] [] z := Hp.start _ wf _ (by simp)
  refine Cw.enterS Tryd.func38 rfl rfl ?_
  refine Sm.seqW ?_
  conv => whnf
  refine hp.var (cs := a.cells) (e := 4) rfl rfl ?_
  clear hp
  intro p4 s hp _
  conv => whnf
  refine hp.var (cs := b.cells) (e := 4) rfl rfl ?_
  clear hp
  intro p5 s hp _
  conv => whnf
  refine hp.alloc (cs := Dc.zero.cells) (e := 4) rfl rfl rfl rfl rfl ?_
  clear hp
  intro p8 s hp _
  conv => whnf
  refine Sm.live [2, 3, 4, 5, 8, 9] ?_
  conv => whnf
  refine Sm.seq ?_
  refine Sm.seqW ?_
  conv => whnf
  refine hp.loadA (l := a.cells) (by repeat (first | exact Has.here | apply Has.there | (apply Has.swap; repeat (first | exact HasR.here | apply HasR.there)))) rfl (by rfl) rfl rfl ?_
  conv => whnf
  refine hp.loadA (l := b.cells) (by repeat (first | exact Has.here | apply Has.there | (apply Has.swap; repeat (first | exact HasR.here | apply HasR.there)))) rfl (by rfl) rfl rfl ?_
  conv => whnf
  refine hp.lit (cs := a.cells ++ b.cells) (e := 4) (by rfl) ?_
  clear hp
  intro b1 s hp _
  conv => whnf
  have hs1 : Sl s (some b1) (.slice (some ⟨b1, 0, none⟩) 2 2) 4 [a, b].length (dcCells [a, b]) := by
    have := hp.blkSl (n := 2) (m := (by repeat (first | exact Has.here | apply Has.there | (apply Has.swap; repeat (first | exact HasR.here | apply HasR.there))) : Has (blkA b1 b1 (a.cells ++ b.cells) 4) _ _)) rfl
    have e : dcCells [a, b] = a.cells ++ b.cells := by simp [dcCells]
    rw [e]; exact this
  (refine hp.call (qright_spec hp.wf sc mode hs1 (by simp) (by simp; exact ⟨ha, hb⟩)) ?_; clear hp; rintro _ s rfl hp _; conv => whnf)
  clear hs1
  cases hr : rightAll [a, b] sc mode with
  | false =>
    refine Sm.ofW ?_
    conv => whnf
    repeat (first | (refine Br.yes (by first | with_reducible rfl | with_reducible exact beq_self_eq_true _ | rfl) ?_; conv => whnf) | (refine Br.no (by first | with_reducible rfl | with_reducible exact bne_self_eq_false _ | rfl) ?_; conv => whnf))
    unfold timesF
    rw [if_pos hr]
    refine hp.storeW (vs := Dc.zero.cells) rfl (by repeat (first | exact Rm.here | apply Rm.there)) (Dc_same _ Dc.zero) rfl rfl rfl ?_
    clear hp
    intro s hp _
    conv => whnf
    refine hp.loadA (l := Dc.zero.cells) (by repeat (first | exact Has.here | apply Has.there | (apply Has.swap; repeat (first | exact HasR.here | apply HasR.there)))) rfl (by rfl) rfl rfl ?_
    conv => whnf
    exact ⟨hp.fr, rfl⟩
  | true =>
    refine Sm.ofW ?_
    conv => whnf
    repeat (first | (refine Br.yes (by first | with_reducible rfl | with_reducible exact beq_self_eq_true _ | rfl) ?_; conv => whnf) | (refine Br.no (by first | with_reducible rfl | with_reducible exact bne_self_eq_false _ | rfl) ?_; conv => whnf))
    obtain ⟨g1, g2, g5, g6⟩ := rightAll_2 hr
    obtain ⟨x1, x2, x3⟩ := Dc.right_c g1
    obtain ⟨y1, y2, y3⟩ := Dc.right_c g2
    unfold timesF
    rw [if_neg (by rw [hr]; decide)]
    clear hr
    obtain ⟨an, ac, ae⟩ := a
    obtain ⟨bn, bc, be⟩ := b
    simp only at ha hb x1 x2 x3 y1 y2 y3 ⊢
    have hN : ac * bc < w256 := Nat.lt_of_lt_of_le (Nat.mul_lt_mul'' ha hb) (by decide)
    refine Sm.live [2, 3, 4, 5, 8] ?_
    conv => whnf
    refine Sm.seqW ?_
    conv => whnf
    refine ⟨[0, 1, 0, 4, 15, 0, 32, 0, 128, 480, 0, 0, 2048, 7168, 0, 16384, 64512, 0, 132095, 394239, 1048575], by decide +kernel, by decide +kernel, ?_⟩
    conv => whnf
    refine hp.load (off := 0) (v := .bool an) (by repeat (first | exact Has.here | apply Has.there | (apply Has.swap; repeat (first | exact HasR.here | apply HasR.there)))) (by rfl) rfl rfl rfl ?_
    conv => whnf
    refine hp.load (off := 0) (v := .bool bn) (by repeat (first | exact Has.here | apply Has.there | (apply Has.swap; repeat (first | exact HasR.here | apply HasR.there)))) (by rfl) rfl rfl rfl ?_
    conv => whnf
    refine Om.of (.bool (an != bn)) (by cases an <;> cases bn <;> rfl) ?_
    conv => whnf
    refine hp.loadA (off := 1) (l := C2 (ac % w64) (ac / w64)) (by repeat (first | exact Has.here | apply Has.there | (apply Has.swap; repeat (first | exact HasR.here | apply HasR.there)))) rfl (by rfl) rfl rfl ?_
    conv => whnf
    refine hp.loadA (off := 1) (l := C2 (bc % w64) (bc / w64)) (by repeat (first | exact Has.here | apply Has.there | (apply Has.swap; repeat (first | exact HasR.here | apply HasR.there)))) rfl (by rfl) rfl rfl ?_
    conv => whnf
    (refine hp.rst.call (lMul_spec hp.rst.wf (a := ac) (b := bc) ha hb) ?_; rintro _ s1 rfl h1 k1; (conv => whnf); refine hp.dkN h1 k1 ?_; clear hp h1 k1; intro s hp; conv => whnf)
    generalize ac * bc = N at hN ⊢
    refine hp.load (off := 3) (v := .int .i64 ae) (by repeat (first | exact Has.here | apply Has.there | (apply Has.swap; repeat (first | exact HasR.here | apply HasR.there)))) (by rfl) rfl rfl rfl ?_
    conv => whnf
    refine hp.load (off := 3) (v := .int .i64 be) (by repeat (first | exact Has.here | apply Has.there | (apply Has.swap; repeat (first | exact HasR.here | apply HasR.there)))) (by rfl) rfl rfl rfl ?_
    conv => whnf
    have em : IntKind.i64.wrap (IntKind.i64.wrap (sc - ae) - be) = sc - ae - be := by rw [wi64 (n := sc - ae) (by omega) (by omega), wi64 (by omega) (by omega)]
    rw [em]
    refine hp.rst.alloc (cs := C4 0 0 0 0) (e := 1) rfl rfl rfl rfl rfl ?_
    intro p11 s1 h1 k1
    conv => whnf
    refine hp.dkN h1 k1 ?_
    clear hp h1 k1
    intro s hp
    conv => whnf
    have hpC := hp
    refine hp.rst.storeW (vs := C4 (N % w64) (N / w64 % w64) (N / w128 % w64) (N / w192)) rfl (by repeat (first | exact Rm.here | apply Rm.there)) (C4_same ..) rfl rfl rfl ?_
    intro s1 h1 l1
    conv => whnf
    refine hp.dkW h1 l1 ?_
    clear hp h1 l1
    intro s hp
    conv => whnf
    refine ⟨hpC.sa hp (by repeat (first | exact Has.here | apply Has.there | (apply Has.swap; repeat (first | exact HasR.here | apply HasR.there)))) (by repeat (first | exact Has.here | apply Has.there | (apply Has.swap; repeat (first | exact HasR.here | apply HasR.there)))), ?_⟩
    conv => whnf
    repeat (refine ⟨hpC.sa hp (by repeat (first | exact Has.here | apply Has.there | (apply Has.swap; repeat (first | exact HasR.here | apply HasR.there)))) (by repeat (first | exact Has.here | apply Has.there | (apply Has.swap; repeat (first | exact HasR.here | apply HasR.there)))), ?_⟩; conv => whnf)
    clear hpC
    refine Sm.live [2, 3, 8, 10, 11, 12] ?_
    conv => whnf
    refine Sm.seq ?_
    refine Sm.seqW ?_
    conv => whnf
    by_cases hm : sc - ae - be < 0
    · rw [if_pos hm]
      obtain ⟨k, hk⟩ : ∃ k : Nat, (ae + be - sc).toNat = k := ⟨_, rfl⟩
      rw [hk]
      have hk1 : IntKind.i64.wrap (0 - (sc - ae - be)) = (k : Int) := by rw [wi64 (by omega) (by omega)]; omega
      have hk2 : k ≤ 18 := by omega
      refine Sm.cond (v := true) (congrArg (fun x => some (Value.bool x)) (decide_eq_true hm)) (fun _ => ?_) (fun h => by cases h)
      refine Sm.live [2, 3, 8, 10, 11, 12] ?_
      conv => whnf
      refine Sm.seqW ?_
      conv => whnf
      refine ⟨[0, 0, 0, 4, 12, 0, 0, 127, 255, 255, 1023, 2047], by decide +kernel, by decide +kernel, ?_⟩
      conv => whnf
      refine hp.loadA (l := C4 (N % w64) (N / w64 % w64) (N / w128 % w64) (N / w192)) (by repeat (first | exact Has.here | apply Has.there | (apply Has.swap; repeat (first | exact HasR.here | apply HasR.there)))) rfl (by rfl) rfl rfl ?_
      conv => whnf
      rw [hk1]
      (refine hp.rst.call (qten_spec hp.rst.wf (k := k) (by omega)) ?_; rintro _ s1 rfl h1 k1; (conv => whnf); refine hp.dkN h1 k1 ?_; clear hp h1 k1; intro s hp; conv => whnf)
      (refine hp.rst.call (rounded_spec hp.rst.wf (an != bn) (n := N) (b := 10 ^ k) hN (ten_lt (by omega)) (Nat.pow_pos (by decide)) g5 g6 mode) ?_; rintro _ s1 rfl h1 k1; (conv => whnf); refine hp.dkN h1 k1 ?_; clear hp h1 k1; intro s hp; conv => whnf)
      obtain ⟨d2, e2, hd2⟩ := dmade_shape (an != bn) (roundN (an != bn) N (10 ^ k) mode) sc
      rw [hd2]
      conv => whnf
      refine hp.rst.storeW (vs := d2.cells) rfl (by repeat (first | exact Rm.here | apply Rm.there)) (Dc_same _ Dc.zero) rfl rfl rfl ?_
      intro s1 h1 l1
      conv => whnf
      refine hp.dkW h1 l1 ?_
      clear hp h1 l1
      intro s hp
      conv => whnf
      refine Sm.ofW ?_
      conv => whnf
      refine hp.loadA (l := d2.cells) (by repeat (first | exact Has.here | apply Has.there | (apply Has.swap; repeat (first | exact HasR.here | apply HasR.there)))) rfl (by rfl) rfl rfl ?_
      conv => whnf
      exact ⟨hp.fr, rfl⟩
    · rw [if_neg hm]
      obtain ⟨k, hk⟩ : ∃ k : Nat, (sc - ae - be).toNat = k := ⟨_, rfl⟩
      rw [hk]
      have hk1 : sc - ae - be = (k : Int) := by omega
      have hk2 : k ≤ 9 := by omega
      refine Sm.ofW ?_
      conv => whnf
      refine Br.no (decide_eq_false hm) ?_
      conv => whnf
      rw [hk1]
      refine Sm.live [2, 8, 10, 11, 12] ?_
      conv => whnf
      refine Sm.seqW ?_
      conv => whnf
      refine hp.loadA (l := C4 (N % w64) (N / w64 % w64) (N / w128 % w64) (N / w192)) (by repeat (first | exact Has.here | apply Has.there | (apply Has.swap; repeat (first | exact HasR.here | apply HasR.there)))) rfl (by rfl) rfl rfl ?_
      conv => whnf
      (refine hp.call (qmade_spec hp.wf (an != bn) (n := N) hN (sc := 0) (by decide) (by decide)) ?_; clear hp; rintro _ s rfl hp _; conv => whnf)
      by_cases h30 : N < 10 ^ 30
      · rw [if_pos h30]
        have hNs : N < w128 := Nat.lt_trans h30 (by decide)
        have hmd : dmade (an != bn) N 0 = okD ⟨(an != bn) && !decide (N = 0), N, 0⟩ := if_pos h30
        rw [hmd]
        conv => whnf
        refine hp.alloc (cs := Dc.zero.cells) (e := 4) rfl rfl rfl rfl rfl ?_
        clear hp
        intro p13 s hp _
        conv => whnf
        refine hp.storeW (vs := Dc.cells ⟨(an != bn) && !decide (N = 0), N, 0⟩) rfl (by repeat (first | exact Rm.here | apply Rm.there)) (Dc_same _ Dc.zero) rfl rfl rfl ?_
        clear hp
        intro s hp _
        conv => whnf
        refine Sm.live [2, 8, 10, 12, 13, 14] ?_
        conv => whnf
        refine Sm.seq ?_
        refine Sm.seqW ?_
        conv => whnf
        refine Sm.ofW ?_
        conv => whnf
        repeat (first | (refine Br.yes (by first | with_reducible rfl | with_reducible exact beq_self_eq_true _ | rfl) ?_; conv => whnf) | (refine Br.no (by first | with_reducible rfl | with_reducible exact bne_self_eq_false _ | rfl) ?_; conv => whnf))
        refine Sm.live [2, 8, 10, 12, 13] ?_
        conv => whnf
        refine Sm.seqW ?_
        conv => whnf
        refine ⟨[0, 0, 2, 0, 8, 30, 0, 127, 255, 255, 1023, 2047], by decide +kernel, by decide +kernel, ?_⟩
        conv => whnf
        have hN2 : N * 10 ^ k < w256 := Nat.lt_of_lt_of_le (Nat.mul_lt_mul'' hNs (ten_lt (k := k) (by omega))) (by decide)
        refine hp.loadA (off := 1) (l := C2 (N % w64) (N / w64)) (by repeat (first | exact Has.here | apply Has.there | (apply Has.swap; repeat (first | exact HasR.here | apply HasR.there)))) rfl (by rfl) rfl rfl ?_
        conv => whnf
        (refine hp.rst.call (qten_spec hp.rst.wf (k := k) (by omega)) ?_; rintro _ s1 rfl h1 k1; (conv => whnf); refine hp.dkN h1 k1 ?_; clear hp h1 k1; intro s hp; conv => whnf)
        (refine hp.rst.call (lMul_spec hp.rst.wf (a := N) (b := 10 ^ k) hNs (ten_lt (by omega))) ?_; rintro _ s1 rfl h1 k1; (conv => whnf); refine hp.dkN h1 k1 ?_; clear hp h1 k1; intro s hp; conv => whnf)
        (refine hp.rst.call (qmade_spec hp.rst.wf (an != bn) (n := N * 10 ^ k) hN2 (sc := sc) g5 g6) ?_; rintro _ s1 rfl h1 k1; (conv => whnf); refine hp.dkN h1 k1 ?_; clear hp h1 k1; intro s hp; conv => whnf)
        obtain ⟨d2, e2, hd2⟩ := dmade_shape (an != bn) (N * 10 ^ k) sc
        rw [hd2]
        conv => whnf
        refine hp.rst.storeW (vs := d2.cells) rfl (by repeat (first | exact Rm.here | apply Rm.there)) (Dc_same _ Dc.zero) rfl rfl rfl ?_
        intro s1 h1 l1
        conv => whnf
        refine hp.dkW h1 l1 ?_
        clear hp h1 l1
        intro s hp
        conv => whnf
        refine Sm.ofW ?_
        conv => whnf
        refine hp.loadA (l := d2.cells) (by repeat (first | exact Has.here | apply Has.there | (apply Has.swap; repeat (first | exact HasR.here | apply HasR.there)))) rfl (by rfl) rfl rfl ?_
        conv => whnf
        exact ⟨hp.fr, rfl⟩
      · rw [if_neg h30]
        have hmd : dmade (an != bn) N 0 = errD 3 := if_neg h30
        rw [hmd]
        conv => whnf
        refine hp.alloc (cs := Dc.zero.cells) (e := 4) rfl rfl rfl rfl rfl ?_
        clear hp
        intro p13 s hp _
        conv => whnf
        refine hp.storeW (vs := Dc.zero.cells) rfl (by repeat (first | exact Rm.here | apply Rm.there)) (Dc_same _ Dc.zero) rfl rfl rfl ?_
        clear hp
        intro s hp _
        conv => whnf
        refine Sm.live [2, 8, 10, 12, 13, 14] ?_
        conv => whnf
        refine Sm.seq ?_
        refine Sm.seqW ?_
        conv => whnf
        refine Sm.ofW ?_
        conv => whnf
        repeat (first | (refine Br.yes (by first | with_reducible rfl | with_reducible exact beq_self_eq_true _ | rfl) ?_; conv => whnf) | (refine Br.no (by first | with_reducible rfl | with_reducible exact bne_self_eq_false _ | rfl) ?_; conv => whnf))
        refine hp.storeW (vs := Dc.zero.cells) rfl (by repeat (first | exact Rm.here | apply Rm.there)) (Dc_same _ Dc.zero) rfl rfl rfl ?_
        clear hp
        intro s hp _
        conv => whnf
        refine hp.loadA (l := Dc.zero.cells) (by repeat (first | exact Has.here | apply Has.there | (apply Has.swap; repeat (first | exact HasR.here | apply HasR.there)))) rfl (by rfl) rfl rfl ?_
        conv => whnf
        exact ⟨hp.fr, rfl⟩
end Go.Ev
end
