/- Several texts in one: what the law's text leans on, one behind the other. No condition but those that each theorem names. -/
import Derived.Test.YtknhjdkjjfijlaaGreatDoorKCmdKnownS5
import Derived.Test.YtknhjdkjjfijlaaGreatDoorChecked
import Derived.Test.YtknhjdkjjfijlaaGreatDoorKCmdKnownS6
noncomputable section
namespace Go.Ev
open Go.Proofs
set_option linter.unusedVariables false
set_option linter.unusedSectionVars false
set_option maxRecDepth 100000

theorem Br.y1 [Lk] {b : Bool} {p q : Prop} (k : p) (h : b = true := by first | with_reducible rfl | with_reducible exact beq_self_eq_true _ | rfl) : Br b p q := .yes h k
theorem Has.d {a : At} {F R : List At} (h : Has a F R := by repeat constructor) : Has a F R := h
theorem Rm.d {a : At} {F G : List At} (h : Rm a F G := by repeat constructor) : Rm a F G := h
theorem Br.n1 [Lk] {b : Bool} {p q : Prop} (k : q) (h : b = false := by first | with_reducible rfl | with_reducible exact bne_self_eq_false _ | rfl) : Br b p q := .no h k
/- Numbers of two words: sums, differences. No condition. -/
section
variable [Lk]
abbrev w64 : Nat := 18446744073709551616
theorem bit63 {n : Nat} (h : n < w64) : n.testBit 63 = decide (9223372036854775808 ≤ n) := by
 rw [Nat.testBit_eq_decide_div_mod_eq]
 apply decide_eq_decide.2
 have : (2 : Nat) ^ 63 = 9223372036854775808 := by decide
 rw [this]
 simp only [w64] at h
 omega
theorem shr63 {n : Nat} (h : n < w64) : n / 9223372036854775808 = if n.testBit 63 = true then 1 else 0 := by
 rw [bit63 h]
 simp only [w64] at h
 split <;> rename_i g <;> simp at g <;> omega
theorem andNot_u64 {a b : Nat} (ha : a < w64) (hb : b < w64) :
  ∃ x : Nat, x < w64 ∧ IntKind.u64.wrap ((BitVec.ofInt IntKind.u64.bits (a : Int) &&& ~~~ BitVec.ofInt IntKind.u64.bits (b : Int)).toNat : Int) = (x : Int) ∧ x.testBit 63 = (a.testBit 63 && !b.testBit 63) := by
 have e : IntKind.u64.bits = 64 := rfl
 rw [e, bv_nat, bv_nat]
 refine ⟨(BitVec.ofNat 64 a &&& ~~~ BitVec.ofNat 64 b).toNat, (BitVec.ofNat 64 a &&& ~~~ BitVec.ofNat 64 b).isLt, ?_, ?_⟩
 · rw [wrap_u64, Nat.mod_eq_of_lt (BitVec.ofNat 64 a &&& ~~~ BitVec.ofNat 64 b).isLt]
 · rw [BitVec.toNat_and, BitVec.toNat_not, BitVec.toNat_ofNat, BitVec.toNat_ofNat, Nat.mod_eq_of_lt (show a < 2 ^ 64 from ha), Nat.mod_eq_of_lt (show b < 2 ^ 64 from hb), Nat.testBit_and]
   have h1 : 2 ^ 64 - 1 - b < w64 := by simp only [w64] at *; omega
   rw [bit63 h1, bit63 hb]
   congr 1
   simp only [w64] at *
   by_cases h : 9223372036854775808 ≤ b <;> simp [h] <;> omega
theorem and_bit {a b : Nat} : (a &&& b).testBit 63 = (a.testBit 63 && b.testBit 63) := Nat.testBit_and ..
theorem or_bit {a b : Nat} : (a ||| b).testBit 63 = (a.testBit 63 || b.testBit 63) := Nat.testBit_or ..
theorem and_lt64 {a b : Nat} (ha : a < w64) : a &&& b < w64 := Nat.lt_of_le_of_lt Nat.and_le_left ha
theorem or_lt64 {a b : Nat} (ha : a < w64) (hb : b < w64) : a ||| b < w64 := Nat.or_lt_two_pow (n := 64) ha hb
theorem fdiv63 (n : Nat) : ((n : Int)).fdiv (2 ^ 63) = ((n / 9223372036854775808 : Nat) : Int) := by
 rw [Int.fdiv_eq_ediv_of_nonneg _ (by decide)]; exact (Int.natCast_ediv n 9223372036854775808).symm
theorem carry_eq {a b c : Nat} (ha : a < w64) (hb : b < w64) (hc : c ≤ 1) :
  (IntKind.u64.wrap ((BitVec.ofInt IntKind.u64.bits (IntKind.u64.wrap ((BitVec.ofInt IntKind.u64.bits (a : Int) &&& BitVec.ofInt IntKind.u64.bits (b : Int)).toNat : Int)) |||
   BitVec.ofInt IntKind.u64.bits (IntKind.u64.wrap ((BitVec.ofInt IntKind.u64.bits (IntKind.u64.wrap ((BitVec.ofInt IntKind.u64.bits (a : Int) ||| BitVec.ofInt IntKind.u64.bits (b : Int)).toNat : Int)) &&& ~~~ BitVec.ofInt IntKind.u64.bits (((a + b + c) % w64 : Nat) : Int)).toNat : Int))).toNat : Int)).fdiv (2 ^ 63) = (((a + b + c) / w64 : Nat) : Int) := by
 have hs : (a + b + c) % w64 < w64 := Nat.mod_lt _ (by decide)
 rw [and_u64 ha hb, or_u64 ha hb]
 obtain ⟨x, x1, x2, x3⟩ := andNot_u64 (or_lt64 ha hb) hs
 rw [x2, or_u64 (and_lt64 ha) x1, fdiv63, shr63 (or_lt64 (and_lt64 ha) x1), or_bit, and_bit, x3, or_bit, bit63 ha, bit63 hb, bit63 hs]
 congr 1
 simp only [w64] at *
 by_cases h1 : 9223372036854775808 ≤ a <;> by_cases h2 : 9223372036854775808 ≤ b <;> by_cases h3 : 9223372036854775808 ≤ (a + b + c) % 18446744073709551616 <;> simp [h1, h2, h3] <;> omega
theorem borrow_eq {a b c : Nat} (ha : a < w64) (hb : b < w64) (hc : c ≤ 1) :
  (IntKind.u64.wrap ((BitVec.ofInt IntKind.u64.bits (IntKind.u64.wrap ((BitVec.ofInt IntKind.u64.bits (IntKind.u64.wrap ((BitVec.ofInt IntKind.u64.bits (18446744073709551615 : Int) ^^^ BitVec.ofInt IntKind.u64.bits (a : Int)).toNat : Int)) &&& BitVec.ofInt IntKind.u64.bits (b : Int)).toNat : Int)) |||
   BitVec.ofInt IntKind.u64.bits (IntKind.u64.wrap ((BitVec.ofInt IntKind.u64.bits (IntKind.u64.wrap ((BitVec.ofInt IntKind.u64.bits (IntKind.u64.wrap ((BitVec.ofInt IntKind.u64.bits (18446744073709551615 : Int) ^^^ BitVec.ofInt IntKind.u64.bits (a : Int)).toNat : Int)) ||| BitVec.ofInt IntKind.u64.bits (b : Int)).toNat : Int)) &&& BitVec.ofInt IntKind.u64.bits (((a + w64 + w64 - b - c) % w64 : Nat) : Int)).toNat : Int))).toNat : Int)).fdiv (2 ^ 63) = ((if a < b + c then 1 else 0 : Nat) : Int) := by
 have hs : (a + w64 + w64 - b - c) % w64 < w64 := Nat.mod_lt _ (by decide)
 have hx : IntKind.u64.wrap ((BitVec.ofInt IntKind.u64.bits (18446744073709551615 : Int) ^^^ BitVec.ofInt IntKind.u64.bits (a : Int)).toNat : Int) = ((18446744073709551615 - a : Nat) : Int) := by
  have := xor_u64 (a := 18446744073709551615) (b := a) (by decide) ha
  rw [Nat.xor_comm, xor_ones ha] at this
  exact this
 have hn : 18446744073709551615 - a < w64 := by simp only [w64]; omega
 rw [hx, and_u64 hn hb, or_u64 hn hb, and_u64 (or_lt64 hn hb) hs, or_u64 (and_lt64 hn) (and_lt64 (or_lt64 hn hb)), fdiv63, shr63 (or_lt64 (and_lt64 hn) (and_lt64 (or_lt64 hn hb))), or_bit, and_bit, and_bit, or_bit, bit63 hn, bit63 hb, bit63 hs]
 congr 1
 simp only [w64] at *
 by_cases h1 : 9223372036854775808 ≤ 18446744073709551615 - a <;> by_cases h2 : 9223372036854775808 ≤ b <;> by_cases h3 : 9223372036854775808 ≤ (a + 18446744073709551616 + 18446744073709551616 - b - c) % 18446744073709551616 <;> simp [h1, h2, h3] <;> omega
theorem lplus_spec (s : St) {a b c : Nat} (ha : a < w64) (hb : b < w64) (hc : c ≤ 1) :
  Cw Tryz.prog 139 [.int .u64 (a : Int), .int .u64 (b : Int), .int .u64 (c : Int)] s fun r s' => s' = s ∧ r = .tuple #[.int .u64 (((a + b + c) % w64 : Nat) : Int), .int .u64 (((a + b + c) / w64 : Nat) : Int)] := by
 have e1 : IntKind.u64.wrap (IntKind.u64.wrap ((a : Int) + (b : Int)) + (c : Int)) = (((a + b + c) % w64 : Nat) : Int) := by
  rw [wrap_u64i, wrap_u64i]; simp only [w64] at *; omega
 have e2 := carry_eq ha hb hc
 refine Cw.enter Tryz.func139 rfl rfl ?_
 conv => whnf
 rw [e1]
 refine Om.of _ (congrArg (fun x => some (Value.int .u64 x)) e2) ?_
 conv => whnf
 exact ⟨rfl, rfl⟩
theorem lless_spec (s : St) {a b c : Nat} (ha : a < w64) (hb : b < w64) (hc : c ≤ 1) :
  Cw Tryz.prog 133 [.int .u64 (a : Int), .int .u64 (b : Int), .int .u64 (c : Int)] s fun r s' => s' = s ∧ r = .tuple #[.int .u64 (((a + w64 + w64 - b - c) % w64 : Nat) : Int), .int .u64 ((if a < b + c then 1 else 0 : Nat) : Int)] := by
 have e1 : IntKind.u64.wrap (IntKind.u64.wrap ((a : Int) - (b : Int)) - (c : Int)) = (((a + w64 + w64 - b - c) % w64 : Nat) : Int) := by
  rw [wrap_u64i, wrap_u64i]; simp only [w64] at *; omega
 have e2 := borrow_eq ha hb hc
 refine Cw.enter Tryz.func133 rfl rfl ?_
 conv => whnf
 rw [e1]
 refine Om.of _ (congrArg (fun x => some (Value.int .u64 x)) e2) ?_
 conv => whnf
 exact ⟨rfl, rfl⟩
def A2 (a b : Nat) : Value := .agg #[.int .u64 (a : Int), .int .u64 (b : Int)]
def C2 (a b : Nat) : List Value := [.int .u64 (a : Int), .int .u64 (b : Int)]
abbrev w128 : Nat := 340282366920938463463374607431768211456
def W2 (n : Nat) : Value := A2 (n % w64) (n / w64)
theorem w2_lt {n : Nat} (h : n < w128) : n % w64 < w64 ∧ n / w64 < w64 := by simp only [w64, w128] at *; omega
theorem lAdd_spec {z : St} (wf : WF z) {a b : Nat} (ha : a < w128) (hb : b < w128) :
  Cw Tryz.prog 116 [W2 a, W2 b] z fun r s' => K0 z s' ∧ r = if a + b < w128 then .tuple #[W2 (a + b), .bool true] else .tuple #[W2 0, .bool false] := by
 have hp : Hp (fun _ => False) z [] [] z := Hp.start _ wf _ (by simp)
 obtain ⟨a1, a2⟩ := w2_lt ha
 obtain ⟨b1, b2⟩ := w2_lt hb
 have hsum : (a % w64 + b % w64 + 0) % w64 = (a + b) % w64 ∧ (a / w64 + b / w64 + (a % w64 + b % w64 + 0) / w64) = (a + b) / w64 ∧ (a % w64 + b % w64 + 0) / w64 ≤ 1 := by simp only [w64, w128] at *; omega
 unfold W2
 generalize a % w64 = al at *
 generalize a / w64 = ah at *
 generalize b % w64 = bl at *
 generalize b / w64 = bh at *
 refine Cw.enterS Tryz.func116 rfl rfl ?_
 refine Sm.seqW ?_
 conv => whnf
 refine hp.var (cs := C2 al ah) (e := 1) rfl rfl ?_
 clear hp
 intro p1 s hp _
 conv => whnf
 refine hp.var (cs := C2 bl bh) (e := 1) rfl rfl ?_
 clear hp
 intro p2 s hp _
 conv => whnf
 refine hp.alloc (cs := C2 0 0) (e := 1) rfl rfl rfl rfl rfl ?_
 clear hp
 intro p3 s hp _
 conv => whnf
 refine Sm.live [2, 3, 4, 5] ?_
 conv => whnf
 refine Sm.seqW ?_
 conv => whnf
 (refine Om.of _ rfl ?_; conv => whnf)
 (refine hp.load .d (by rfl) rfl rfl rfl ?_; conv => whnf)
 (refine Om.of _ rfl ?_; conv => whnf)
 (refine hp.load .d (by rfl) rfl rfl rfl ?_; conv => whnf)
 refine (lplus_spec _ (c := 0) a1 b1 (by decide)).mono ?_
 rintro _ _ ⟨rfl, rfl⟩
 conv => whnf
 refine Sm.live [2, 3, 4, 5, 6, 7] ?_
 conv => whnf
 refine Sm.seqW ?_
 conv => whnf
 (refine Om.of _ rfl ?_; conv => whnf)
 (refine hp.load .d (by rfl) rfl rfl rfl ?_; conv => whnf)
 (refine Om.of _ rfl ?_; conv => whnf)
 (refine hp.load .d (by rfl) rfl rfl rfl ?_; conv => whnf)
 refine (lplus_spec _ a2 b2 hsum.2.2).mono ?_
 rintro _ _ ⟨rfl, rfl⟩
 conv => whnf
 rw [hsum.1, hsum.2.1]
 have hq : ((a + b) / w64 / w64 = 0 ↔ a + b < w128) ∧ (a + b < w128 → (a + b) / w64 % w64 = (a + b) / w64) := by simp only [w64, w128] at *; omega
 refine Sm.live [4, 5, 6, 8, 9] ?_
 conv => whnf
 refine Sm.seq ?_
 refine Sm.seqW ?_
 conv => whnf
 refine Sm.ofW ?_
 conv => whnf
 by_cases hlt : a + b < w128
 · rw [if_pos hlt, hq.2 hlt]
   refine Br.no (decide_eq_false (by have := hq.1.2 hlt; omega)) ?_
   conv => whnf
   refine Sm.seqW ?_
   conv => whnf
   refine hp.storeW (vs := C2 ((a + b) % w64) ((a + b) / w64)) rfl .d (by rfl) rfl rfl rfl ?_
   clear hp
   intro s hp _
   conv => whnf
   refine Sm.ofW ?_
   conv => whnf
   refine hp.loadA (l := C2 ((a + b) % w64) ((a + b) / w64)) .d rfl (by rfl) rfl rfl ?_
   conv => whnf
   exact ⟨hp.fr, rfl⟩
 · rw [if_neg hlt]
   refine Br.yes (decide_eq_true (by
    have h1 : 0 < (a + b) / w64 / w64 := Nat.pos_of_ne_zero fun h => hlt (hq.1.1 h)
    exact Int.natCast_pos.2 h1)) ?_
   conv => whnf
   refine hp.storeW (vs := C2 0 0) rfl .d (by rfl) rfl rfl rfl ?_
   clear hp
   intro s hp _
   conv => whnf
   refine hp.loadA (l := C2 0 0) .d rfl (by rfl) rfl rfl ?_
   conv => whnf
   exact ⟨hp.fr, rfl⟩
end

/- Numbers of two words, further: Sub, Of, Short, Wide, Cmp. No condition. -/
section
variable [Lk]
def C4 (a b c d : Nat) : List Value := [.int .u64 (a : Int), .int .u64 (b : Int), .int .u64 (c : Int), .int .u64 (d : Int)]
def A4 (a b c d : Nat) : Value := .agg #[.int .u64 (a : Int), .int .u64 (b : Int), .int .u64 (c : Int), .int .u64 (d : Int)]
abbrev w192 : Nat := 6277101735386680763835789423207666416102355444464034512896
abbrev w256 : Nat := 115792089237316195423570985008687907853269984665640564039457584007913129639936
def W4 (n : Nat) : Value := A4 (n % w64) (n / w64 % w64) (n / w128 % w64) (n / w192)
theorem w4_short {n : Nat} (h : n < w128) : W4 n = A4 (n % w64) (n / w64) 0 0 := by
 unfold W4
 have h1 : n / w64 % w64 = n / w64 := by simp only [w64, w128] at *; omega
 have h2 : n / w128 % w64 = 0 := by simp only [w64, w128] at *; omega
 have h3 : n / w192 = 0 := by simp only [w192, w128] at *; omega
 rw [h1, h2, h3]
theorem lOf_spec {z : St} (wf : WF z) {a : Nat} (ha : a < w64) :
  Cw Tryz.prog 99 [.int .u64 (a : Int)] z fun r s' => K0 z s' ∧ r = W2 a := by
 have hp : Hp (fun _ => False) z [] [] z := Hp.start _ wf _ (by simp)
 have h1 : a % w64 = a := Nat.mod_eq_of_lt ha
 have h2 : a / w64 = 0 := Nat.div_eq_of_lt ha
 unfold W2
 rw [h1, h2]
 refine Cw.enterS Tryz.func99 rfl rfl ?_
 refine Sm.seqW ?_
 conv => whnf
 refine hp.alloc (cs := C2 0 0) (e := 1) rfl rfl rfl rfl rfl ?_
 clear hp
 intro p3 s hp _
 conv => whnf
 refine Sm.seqW ?_
 conv => whnf
 refine hp.storeW (vs := C2 a 0) rfl .d (by rfl) rfl rfl rfl ?_
 clear hp
 intro s hp _
 conv => whnf
 refine Sm.ofW ?_
 conv => whnf
 refine hp.loadA (l := C2 a 0) .d rfl (by rfl) rfl rfl ?_
 conv => whnf
 exact ⟨hp.fr, rfl⟩
def shortR (n : Nat) : Value := if n < w128 then .tuple #[W2 n, .bool true] else .tuple #[W2 0, .bool false]
theorem lShort_spec {z : St} (wf : WF z) {n : Nat} (hn : n < w256) :
  Cw Tryz.prog 114 [W4 n] z fun r s' => K0 z s' ∧ r = shortR n := by
 have hp : Hp (fun _ => False) z [] [] z := Hp.start _ wf _ (by simp)
 have hlt : n < w128 ↔ (n / w128 % w64 = 0 ∧ n / w192 = 0) := by simp only [w64, w128, w192, w256] at *; omega
 have h1 : n < w128 → n / w64 % w64 = n / w64 := fun h => by simp only [w64, w128] at *; omega
 unfold W4 shortR
 generalize hc : n / w128 % w64 = c at hlt
 generalize hd : n / w192 = d at hlt
 refine Cw.enterS Tryz.func114 rfl rfl ?_
 refine Sm.seqW ?_
 conv => whnf
 refine hp.var (cs := C4 (n % w64) (n / w64 % w64) c d) (e := 1) rfl rfl ?_
 clear hp
 intro p1 s hp _
 conv => whnf
 refine hp.alloc (cs := C2 0 0) (e := 1) rfl rfl rfl rfl rfl ?_
 clear hp
 intro p3 s hp _
 conv => whnf
 refine Sm.live [1, 2, 3] ?_
 conv => whnf
 refine Sm.seq ?_
 refine Sm.seqW ?_
 conv => whnf
 (refine Om.of _ rfl ?_; conv => whnf)
 (refine hp.load .d (by rfl) rfl rfl rfl ?_; conv => whnf)
 have no : ∀ x : Nat, x ≠ 0 → ((x : Int) != 0) = true := fun x h => bne_iff_ne.2 (by omega)
 have ye : ∀ x : Nat, x = 0 → ((x : Int) != 0) = false := fun x h => by subst h; rfl
 by_cases h : n < w128
 · obtain ⟨h2, h3⟩ := hlt.1 h
   rw [if_pos h]
   rw [h1 h] at hp
   refine Br.no (ye _ h2) ?_
   conv => whnf
   (refine Om.of _ rfl ?_; conv => whnf)
   refine Br.no (ye _ h2) ?_
   conv => whnf
   (refine hp.load .d (by rfl) rfl rfl rfl ?_; conv => whnf)
   refine Br.no (ye _ h2) ?_
   conv => whnf
   refine Br.no (ye _ h2) ?_
   conv => whnf
   refine Sm.ofW ?_
   conv => whnf
   refine Br.no (ye _ h3) ?_
   conv => whnf
   refine Sm.seqW ?_
   conv => whnf
   (refine Om.of _ rfl ?_; conv => whnf)
   (refine hp.load .d (by rfl) rfl rfl rfl ?_; conv => whnf)
   (refine Om.of _ rfl ?_; conv => whnf)
   (refine hp.load .d (by rfl) rfl rfl rfl ?_; conv => whnf)
   refine hp.storeW (vs := C2 (n % w64) (n / w64)) rfl .d (by rfl) rfl rfl rfl ?_
   clear hp
   intro s hp _
   conv => whnf
   refine Sm.ofW ?_
   conv => whnf
   refine hp.loadA (l := C2 (n % w64) (n / w64)) .d rfl (by rfl) rfl rfl ?_
   conv => whnf
   exact ⟨hp.fr, rfl⟩
 · rw [if_neg h]
   have fin : ∀ s', Hp (fun _ => False) z [] [blkA p3 p3 (C2 0 0) 1, blkA p1 p1 (C4 (n % w64) (n / w64 % w64) c d) 1] s' → True := fun _ _ => trivial
   by_cases h2 : c = 0
   · have h3 : d ≠ 0 := fun h3 => h (hlt.2 ⟨h2, h3⟩)
     refine Br.no (ye _ h2) ?_
     conv => whnf
     (refine Om.of _ rfl ?_; conv => whnf)
     refine Br.no (ye _ h2) ?_
     conv => whnf
     (refine hp.load .d (by rfl) rfl rfl rfl ?_; conv => whnf)
     refine Br.no (ye _ h2) ?_
     conv => whnf
     refine Br.no (ye _ h2) ?_
     conv => whnf
     refine Sm.ofW ?_
     conv => whnf
     refine Br.yes (no _ h3) ?_
     conv => whnf
     refine hp.storeW (vs := C2 0 0) rfl .d (by rfl) rfl rfl rfl ?_
     clear hp
     intro s hp _
     conv => whnf
     refine hp.loadA (l := C2 0 0) .d rfl (by rfl) rfl rfl ?_
     conv => whnf
     exact ⟨hp.fr, rfl⟩
   · refine Br.yes (no _ h2) ?_
     conv => whnf
     refine Br.yes (no _ h2) ?_
     conv => whnf
     refine Br.yes (no _ h2) ?_
     conv => whnf
     refine Br.yes (no _ h2) ?_
     conv => whnf
     refine Sm.ofW ?_
     conv => whnf
     refine Br.yes rfl ?_
     conv => whnf
     refine hp.storeW (vs := C2 0 0) rfl .d (by rfl) rfl rfl rfl ?_
     clear hp
     intro s hp _
     conv => whnf
     refine hp.loadA (l := C2 0 0) .d rfl (by rfl) rfl rfl ?_
     conv => whnf
     exact ⟨hp.fr, rfl⟩
theorem lWide_spec {z : St} (wf : WF z) {n : Nat} (hn : n < w128) :
  Cw Tryz.prog 104 [W2 n] z fun r s' => K0 z s' ∧ r = W4 n := by
 have hp : Hp (fun _ => False) z [] [] z := Hp.start _ wf _ (by simp)
 rw [w4_short hn]
 refine Cw.enterS Tryz.func104 rfl rfl ?_
 refine Sm.seqW ?_
 conv => whnf
 refine hp.var (cs := C2 (n % w64) (n / w64)) (e := 1) rfl rfl ?_
 clear hp
 intro p1 s hp _
 conv => whnf
 refine hp.alloc (cs := C4 0 0 0 0) (e := 1) rfl rfl rfl rfl rfl ?_
 clear hp
 intro p3 s hp _
 conv => whnf
 refine Sm.seqW ?_
 conv => whnf
 (refine Om.of _ rfl ?_; conv => whnf)
 (refine hp.load .d (by rfl) rfl rfl rfl ?_; conv => whnf)
 (refine Om.of _ rfl ?_; conv => whnf)
 (refine hp.load .d (by rfl) rfl rfl rfl ?_; conv => whnf)
 refine hp.storeW (vs := C4 (n % w64) (n / w64) 0 0) rfl .d (by rfl) rfl rfl rfl ?_
 clear hp
 intro s hp _
 conv => whnf
 refine Sm.ofW ?_
 conv => whnf
 refine hp.loadA (l := C4 (n % w64) (n / w64) 0 0) .d rfl (by rfl) rfl rfl ?_
 conv => whnf
 exact ⟨hp.fr, rfl⟩
end

/- Numbers of two words, further: Cmp, halves. No condition. -/
section
variable [Lk]
def cmpI (a b : Nat) : Int := if a < b then -1 else if a = b then 0 else 1
def kk : Nat → Int
 | 0 => 1
 | 1 => 0
 | _ => -1
theorem lCmp_spec {z : St} (wf : WF z) {a b : Nat} (ha : a < w128) (hb : b < w128) :
  Cw Tryz.prog 132 [W2 a, W2 b] z fun r s' => K0 z s' ∧ r = .int .i64 (cmpI a b) := by
 have hp : Hp (fun _ => False) z [] [] z := Hp.start _ wf _ (by simp)
 have c1 : a / w64 < b / w64 → cmpI a b = -1 := fun h => by unfold cmpI; rw [if_pos (by simp only [w64] at *; omega)]
 have c2 : b / w64 < a / w64 → cmpI a b = 1 := fun h => by unfold cmpI; rw [if_neg (by simp only [w64] at *; omega), if_neg (by simp only [w64] at *; omega)]
 have c3 : a / w64 = b / w64 → a % w64 < b % w64 → cmpI a b = -1 := fun h g => by unfold cmpI; rw [if_pos (by simp only [w64] at *; omega)]
 have c4 : a / w64 = b / w64 → b % w64 < a % w64 → cmpI a b = 1 := fun h g => by unfold cmpI; rw [if_neg (by simp only [w64] at *; omega), if_neg (by simp only [w64] at *; omega)]
 have c5 : a / w64 = b / w64 → b % w64 = a % w64 → cmpI a b = 0 := fun h g => by unfold cmpI; rw [if_neg (by simp only [w64] at *; omega), if_pos (by simp only [w64] at *; omega)]
 unfold W2
 generalize cmpI a b = r at *
 generalize a % w64 = al at *
 generalize a / w64 = ah at *
 generalize b % w64 = bl at *
 generalize b / w64 = bh at *
 refine Cw.enterS Tryz.func132 rfl rfl ?_
 refine Sm.seqW ?_
 conv => whnf
 refine hp.var (cs := C2 al ah) (e := 1) rfl rfl ?_
 clear hp
 intro p1 s hp _
 conv => whnf
 refine hp.var (cs := C2 bl bh) (e := 1) rfl rfl ?_
 clear hp
 intro p2 s hp _
 conv => whnf
 refine Sm.live [2, 3] ?_
 conv => whnf
 refine Sm.seq ?_
 refine Sm.seqW ?_
 conv => whnf
 refine Sm.block ?_
 refine Sm.loop ?_
 refine Lp.ofS (α := Nat) (fun m => [(2, .pointer (some ⟨p1, 0, none⟩)), (3, .pointer (some ⟨p2, 0, none⟩)), (5, .int .i64 (kk m))])
  (fun m s' => m ≤ 2 ∧ (1 ≤ m → ah = bh) ∧ (2 ≤ m → bl = al) ∧ Hp (fun _ => False) z [] [blkA p2 p2 (C2 bl bh) 1, blkA p1 p1 (C2 al ah) 1] s') (fun m => 2 - m) ?_ 0 (subK_ok (by refine ⟨rfl, rfl, rfl, trivial⟩)) ⟨by decide, fun h => absurd h (by decide), fun h => absurd h (by decide), hp⟩
 clear hp
 rintro m s ⟨hm, h1, h2, hp⟩
 have hcase : m = 0 ∨ m = 1 ∨ m = 2 := by omega
 rcases hcase with rfl | rfl | rfl
 · refine Sm.seq ?_
   refine Sm.seqW ?_
   conv => whnf
   refine Sm.ofW ?_
   conv => whnf
   refine Br.yes rfl ?_
   conv => whnf
   refine Sm.seq (Sm.block ?_)
   refine Sm.seqW ?_
   conv => whnf
   refine ⟨[0, 1, 3, 0, 8, 24, 63], by decide +kernel, by decide +kernel, ?_⟩
   conv => whnf
   (refine Om.of _ rfl ?_; conv => whnf)
   (refine hp.load .d (by rfl) rfl rfl rfl ?_; conv => whnf)
   (refine Om.of _ rfl ?_; conv => whnf)
   (refine hp.load .d (by rfl) rfl rfl rfl ?_; conv => whnf)
   by_cases he : ah = bh
   · refine Sm.ofW ?_
     conv => whnf
     refine Br.no (bne_eq_false_iff_eq.2 (by exact congrArg Int.ofNat he)) ?_
     conv => whnf
     refine Sm.ofW ?_
     conv => whnf
     exact ⟨1, by decide, subK_ok (by refine ⟨rfl, rfl, rfl, trivial⟩), by decide, fun _ => he, fun h => absurd h (by decide), hp⟩
   · refine Sm.cond (v := true) (congrArg (fun x => some (Value.bool x)) (bne_iff_ne.2 (by intro h; exact he (Int.ofNat.inj h)))) (fun _ => ?_) (fun h => by cases h)
     refine Sm.seq ?_
     refine Sm.seqW ?_
     conv => whnf
     refine ⟨[0, 1, 3, 0, 8, 24, 63], by decide +kernel, by decide +kernel, ?_⟩
     conv => whnf
     (refine Om.of _ rfl ?_; conv => whnf)
     (refine hp.load .d (by rfl) rfl rfl rfl ?_; conv => whnf)
     (refine Om.of _ rfl ?_; conv => whnf)
     (refine hp.load .d (by rfl) rfl rfl rfl ?_; conv => whnf)
     refine Sm.ofW ?_
     conv => whnf
     refine Br.mk (fun hc => ?_) (fun hc => ?_)
     · have hc := of_decide_eq_true hc
       conv => whnf
       exact ⟨hp.fr, congrArg (Value.int .i64) (c1 (by omega)).symm⟩
     · have hc := of_decide_eq_false hc
       conv => whnf
       refine Sm.ofW ?_
       conv => whnf
       exact ⟨hp.fr, congrArg (Value.int .i64) (c2 (by omega)).symm⟩
 · refine Sm.seq ?_
   refine Sm.seqW ?_
   conv => whnf
   refine Sm.ofW ?_
   conv => whnf
   refine Br.yes rfl ?_
   conv => whnf
   refine Sm.seq (Sm.block ?_)
   refine Sm.seqW ?_
   conv => whnf
   refine ⟨[0, 1, 3, 0, 8, 24, 63], by decide +kernel, by decide +kernel, ?_⟩
   conv => whnf
   (refine Om.of _ rfl ?_; conv => whnf)
   (refine hp.load .d (by rfl) rfl rfl rfl ?_; conv => whnf)
   (refine Om.of _ rfl ?_; conv => whnf)
   (refine hp.load .d (by rfl) rfl rfl rfl ?_; conv => whnf)
   by_cases he : bl = al
   · refine Sm.ofW ?_
     conv => whnf
     refine Br.no (bne_eq_false_iff_eq.2 (by exact congrArg Int.ofNat he.symm)) ?_
     conv => whnf
     refine Sm.ofW ?_
     conv => whnf
     exact ⟨2, by decide, subK_ok (by refine ⟨rfl, rfl, rfl, trivial⟩), by decide, fun _ => h1 (by decide), fun _ => he, hp⟩
   · refine Sm.cond (v := true) (congrArg (fun x => some (Value.bool x)) (bne_iff_ne.2 (by intro h; exact he (Int.ofNat.inj h).symm))) (fun _ => ?_) (fun h => by cases h)
     refine Sm.seq ?_
     refine Sm.seqW ?_
     conv => whnf
     refine ⟨[0, 1, 3, 0, 8, 24, 63], by decide +kernel, by decide +kernel, ?_⟩
     conv => whnf
     (refine Om.of _ rfl ?_; conv => whnf)
     (refine hp.load .d (by rfl) rfl rfl rfl ?_; conv => whnf)
     (refine Om.of _ rfl ?_; conv => whnf)
     (refine hp.load .d (by rfl) rfl rfl rfl ?_; conv => whnf)
     refine Sm.ofW ?_
     conv => whnf
     refine Br.mk (fun hc => ?_) (fun hc => ?_)
     · have hc := of_decide_eq_true hc
       conv => whnf
       exact ⟨hp.fr, congrArg (Value.int .i64) (c3 (h1 (by decide)) (by omega)).symm⟩
     · have hc := of_decide_eq_false hc
       conv => whnf
       refine Sm.ofW ?_
       conv => whnf
       exact ⟨hp.fr, congrArg (Value.int .i64) (c4 (h1 (by decide)) (by omega)).symm⟩
 · refine Sm.seq ?_
   refine Sm.seqW ?_
   conv => whnf
   refine Sm.ofW ?_
   conv => whnf
   refine Br.no rfl ?_
   conv => whnf
   refine Sm.ofW ?_
   conv => whnf
   exact ⟨hp.fr, congrArg (Value.int .i64) (c5 (h1 (by decide)) (h2 (by decide))).symm⟩
def hv (n i : Nat) : Nat := n / 4294967296 ^ i % 4294967296
def H4 (n : Nat) : Value := .agg #[.int .u32 (hv n 0 : Int), .int .u32 (hv n 1 : Int), .int .u32 (hv n 2 : Int), .int .u32 (hv n 3 : Int)]
def HC (n : Nat) : List Value := [.int .u32 (hv n 0 : Int), .int .u32 (hv n 1 : Int), .int .u32 (hv n 2 : Int), .int .u32 (hv n 3 : Int)]
theorem fdiv32 (n : Nat) : ((n : Int)).fdiv (2 ^ 32) = ((n / 4294967296 : Nat) : Int) := by
 rw [Int.fdiv_eq_ediv_of_nonneg _ (by decide)]; exact (Int.natCast_ediv n 4294967296).symm
theorem hv_eq (n : Nat) (h : n < w128) : n % w64 % 4294967296 = hv n 0 ∧ n % w64 / 4294967296 % 4294967296 = hv n 1 ∧ n / w64 % 4294967296 = hv n 2 ∧ n / w64 / 4294967296 % 4294967296 = hv n 3 := by
 unfold hv
 have hB : w64 = 4294967296 * 4294967296 := by decide
 rw [hB, show (4294967296 : Nat) ^ 0 = 1 by decide, show (4294967296 : Nat) ^ 1 = 4294967296 by decide, show (4294967296 : Nat) ^ 2 = 4294967296 * 4294967296 by decide, show (4294967296 : Nat) ^ 3 = 4294967296 * 4294967296 * 4294967296 by decide]
 refine ⟨?_, ?_, rfl, ?_⟩
 · rw [Nat.mod_mul_right_mod, Nat.div_one]
 · rw [Nat.mod_mul_right_div_self, Nat.mod_mod]
 · rw [Nat.div_div_eq_div_mul]
theorem lhalves_spec {z : St} (wf : WF z) {n : Nat} (hn : n < w128) :
  Cw Tryz.prog 137 [W2 n] z fun r s' => K0 z s' ∧ r = H4 n := by
 have hp : Hp (fun _ => False) z [] [] z := Hp.start _ wf _ (by simp)
 obtain ⟨e0, e1, e2, e3⟩ := hv_eq n hn
 refine Cw.enterS Tryz.func137 rfl rfl ?_
 refine Sm.seqW ?_
 conv => whnf
 refine hp.var (cs := C2 (n % w64) (n / w64)) (e := 1) rfl rfl ?_
 clear hp
 intro p1 s hp _
 conv => whnf
 refine hp.alloc (cs := [.int .u32 0, .int .u32 0, .int .u32 0, .int .u32 0]) (e := 1) rfl rfl rfl rfl rfl ?_
 clear hp
 intro p3 s hp _
 conv => whnf
 refine Sm.seqW ?_
 conv => whnf
 (refine Om.of _ rfl ?_; conv => whnf)
 (refine hp.load .d (by rfl) rfl rfl rfl ?_; conv => whnf)
 (refine Om.of _ rfl ?_; conv => whnf)
 (refine hp.load .d (by rfl) rfl rfl rfl ?_; conv => whnf)
 refine Om.of _ (congrArg (fun x => some (Value.int .u64 x)) (fdiv32 _)) ?_
 conv => whnf
 (refine Om.of _ rfl ?_; conv => whnf)
 (refine hp.load .d (by rfl) rfl rfl rfl ?_; conv => whnf)
 (refine Om.of _ rfl ?_; conv => whnf)
 (refine hp.load .d (by rfl) rfl rfl rfl ?_; conv => whnf)
 refine Om.of _ (congrArg (fun x => some (Value.int .u64 x)) (fdiv32 _)) ?_
 conv => whnf
 simp only [wrap_u32, e0, e1, e2, e3]
 refine hp.storeW (vs := HC n) rfl .d (by rfl) rfl rfl rfl ?_
 clear hp
 intro s hp _
 conv => whnf
 refine Sm.ofW ?_
 conv => whnf
 refine hp.loadA (l := HC n) .d rfl (by rfl) rfl rfl ?_
 conv => whnf
 exact ⟨hp.fr, rfl⟩
end

/- Numbers of two words, further: Mul. No condition. -/
section
variable [Lk]
abbrev B32 : Nat := 4294967296
def Vh : List Nat → Nat
 | [] => 0
 | d :: l => d + B32 * Vh l
theorem Vh_set : ∀ (l : List Nat) (k v : Nat) (h : k < l.length), Vh (l.set k v) + l[k] * B32 ^ k = Vh l + v * B32 ^ k
 | [], k, v, h => by simp at h
 | d :: l, 0, v, h => by simp [Vh]; omega
 | d :: l, k + 1, v, h => by
   have ih := Vh_set l k v (by simpa using h)
   simp only [List.set_cons_succ, List.getElem_cons_succ, Vh, Nat.pow_succ]
   have e1 : ∀ x, x * (B32 ^ k * B32) = B32 * (x * B32 ^ k) := fun x => by rw [Nat.mul_comm B32 (x * B32 ^ k), Nat.mul_assoc]
   rw [e1, e1]
   have := congrArg (fun x => B32 * x) ih
   simp only [Nat.mul_add] at this
   omega
def natU (l : List Nat) : List Value := l.map fun (n : Nat) => .int .u64 (n : Int)
theorem natU_len (l : List Nat) : (natU l).length = l.length := by simp [natU]
theorem natU_get (l : List Nat) (k : Nat) (h : k < l.length) : (natU l)[k]? = some (.int .u64 (l[k] : Int)) := by simp [natU, h]
theorem natU_set (l : List Nat) (k v : Nat) : (natU l).set k (.int .u64 (v : Int)) = natU (l.set k v) := by simp [natU, List.map_set]
theorem ixA {P : Program} {t n e : Nat} (hu : P.underlying t = some (.array n e)) {j : TypeInfo} (hi : P.info? e = some j) (hj : j.size = 1) {b off i : Nat} (k : IntKind) (h : i < n) :
  evIndexAddr P t (.pointer (some ⟨b, off, none⟩)) (.int k (i : Int)) = some (.pointer (some ⟨b, off + i, none⟩)) := by
 show (match P.underlying t, Value.pointer (some ⟨b, off, none⟩), Value.int k (.ofNat i) with
  | some (.slice e), .slice (some a) n _, .int _ (.ofNat i) => match Nat.blt i n, P.info? e with
    | true, some j => some (Value.pointer (some ⟨a.block, a.off + i * j.size, none⟩))
    | _, _ => none
  | some (.array n e), .pointer (some a), .int _ (.ofNat i) => match Nat.blt i n, P.info? e with
    | true, some j => some (Value.pointer (some ⟨a.block, a.off + i * j.size, none⟩))
    | _, _ => none
  | _, _, _ => none) = _
 have hb : Nat.blt i n = true := by rw [Nat.blt_eq]; exact h
 simp only [hu, hb, hi, hj, Nat.mul_one]
theorem ixV (n : Nat) : ∀ i : Nat, i < 4 → evIndex Tryz.prog 192 (H4 n) (.int .i64 (i : Int)) = some (.int .u32 (hv n i : Int))
 | 0, _ => rfl
 | 1, _ => rfl
 | 2, _ => rfl
 | 3, _ => rfl
 | _ + 4, h => by omega
theorem hv_lt (n i : Nat) : hv n i < B32 := Nat.mod_lt _ (by decide)
theorem mul_step {V o c N r d X eM g V' : Nat} (h : V + c * g = X + eM) (hs : V' + o * g = V + r * g) (hn : N + o + c = B32 * d + r) : V' + d * (g * B32) = X + (eM + N * g) := by
 have h1 := congrArg (fun x => x * g) hn
 simp only [Nat.add_mul] at h1
 have e1 : B32 * d * g = d * (g * B32) := by rw [Nat.mul_comm B32 d, Nat.mul_assoc, Nat.mul_comm B32 g]
 rw [e1] at h1
 omega
theorem prod_lt {p q o c : Nat} (hp : p < B32) (hq : q < B32) (ho : o < B32) (hc : c < B32) : p * q + o + c < w64 := by
 have h1 : p * q ≤ 4294967295 * 4294967295 := Nat.mul_le_mul (by simp only [B32] at *; omega) (by simp only [B32] at *; omega)
 simp only [B32, w64] at *
 omega
structure MulOk (a b i j c : Nat) (l : List Nat) : Prop where
 len : l.length = 8
 lt : ∀ x ∈ l, x < B32
 zero : ∀ k (h : k < l.length), i + 4 ≤ k → l[k] = 0
 cl : c < B32
 val : Vh l + c * (B32 ^ i * B32 ^ j) = a % B32 ^ i * b + B32 ^ i * (hv a i * (b % B32 ^ j))
theorem MulOk.step {a b i j c : Nat} {l : List Nat} (h : MulOk a b i j c l) (hi : i < 4) (hj : j < 4) :
  ∃ hk : i + j < l.length, hv a i * hv b j + l[i + j] + c < w64 ∧ MulOk a b i (j + 1) ((hv a i * hv b j + l[i + j] + c) / B32) (l.set (i + j) ((hv a i * hv b j + l[i + j] + c) % B32)) := by
 have hk : i + j < l.length := by rw [h.len]; omega
 have hlt := prod_lt (hv_lt a i) (hv_lt b j) (h.lt _ (List.getElem_mem hk)) h.cl
 refine ⟨hk, hlt, by rw [List.length_set]; exact h.len, fun x hx => ?_, fun k hk2 hik => ?_, ?_, ?_⟩
 · rcases List.mem_or_eq_of_mem_set hx with g | g
   · exact h.lt x g
   · rw [g]; exact Nat.mod_lt _ (by decide)
 · rw [List.getElem_set_ne (by omega)]
   exact h.zero k (by simpa using hk2) hik
 · rw [Nat.div_lt_iff_lt_mul (by decide)]
   rw [show B32 * B32 = w64 by decide]; exact hlt
 · have hs := Vh_set l (i + j) ((hv a i * hv b j + l[i + j] + c) % B32) hk
   rw [Nat.pow_add] at hs
   have hn : hv a i * hv b j + l[i + j] + c = B32 * ((hv a i * hv b j + l[i + j] + c) / B32) + (hv a i * hv b j + l[i + j] + c) % B32 := (Nat.div_add_mod _ _).symm
   have := mul_step h.val hs hn
   rw [Nat.pow_succ, ← Nat.mul_assoc (B32 ^ i)]
   rw [this]
   have e1 : b % (B32 ^ j * B32) = b % B32 ^ j + B32 ^ j * hv b j := by rw [← Nat.pow_succ, Nat.mod_pow_succ]; rfl
   rw [e1]
   congr 1
   rw [Nat.mul_add, Nat.mul_add]
   congr 1
   rw [Nat.mul_comm (hv a i * hv b j), Nat.mul_assoc, ← Nat.mul_assoc (hv a i), Nat.mul_comm (hv a i) (B32 ^ j), Nat.mul_assoc]
theorem MulOk.row {a b i c : Nat} {l : List Nat} (h : MulOk a b i 4 c l) (hi : i < 4) (hb : b < w128) : ∃ hk : i + 4 < l.length, MulOk a b (i + 1) 0 0 (l.set (i + 4) c) := by
 have hk : i + 4 < l.length := by rw [h.len]; omega
 have h0 : l[i + 4] = 0 := h.zero _ hk (Nat.le_refl _)
 refine ⟨hk, by rw [List.length_set]; exact h.len, fun x hx => ?_, fun k hk2 hik => ?_, by decide, ?_⟩
 · rcases List.mem_or_eq_of_mem_set hx with g | g
   · exact h.lt x g
   · rw [g]; exact h.cl
 · rw [List.getElem_set_ne (by omega)]
   exact h.zero k (by simpa using hk2) (by omega)
 · have hs := Vh_set l (i + 4) c hk
   rw [h0, Nat.zero_mul, Nat.add_zero, Nat.pow_add] at hs
   have hv2 := h.val
   have hbm : b % B32 ^ 4 = b := Nat.mod_eq_of_lt (by rw [show B32 ^ 4 = w128 by decide]; exact hb)
   rw [hbm] at hv2
   rw [hs, hv2, Nat.zero_mul, Nat.add_zero, Nat.pow_zero, Nat.mod_one, Nat.mul_zero, Nat.mul_zero, Nat.add_zero, Nat.mod_pow_succ, Nat.add_mul, Nat.mul_assoc]
   rfl
theorem MulOk.done {a b c : Nat} {l : List Nat} (h : MulOk a b 4 0 c l) (hc : c = 0) (ha : a < w128) : Vh l = a * b := by
 have hv2 := h.val
 have ham : a % B32 ^ 4 = a := Nat.mod_eq_of_lt (by rw [show B32 ^ 4 = w128 by decide]; exact ha)
 rw [ham, hc, Nat.zero_mul, Nat.add_zero, Nat.pow_zero, Nat.mod_one, Nat.mul_zero, Nat.mul_zero, Nat.add_zero] at hv2
 exact hv2
theorem MulOk.start (a b : Nat) : MulOk a b 0 0 0 [0, 0, 0, 0, 0, 0, 0, 0] := ⟨rfl, by decide, by decide, by decide, by
 rw [Nat.pow_zero, Nat.mod_one, Nat.mod_one]; simp [Vh]⟩
theorem pair_lt {x y : Nat} (hx : x < B32) (hy : y < B32) : x + y * B32 < w64 := by
 have hx : x < 4294967296 := hx
 have hy : y < 4294967296 := hy
 show x + y * 4294967296 < 18446744073709551616
 omega
theorem w4_of {x0 x1 x2 x3 n : Nat} (e : n = x0 + w64 * (x1 + w64 * (x2 + w64 * x3))) (b0 : x0 < w64) (b1 : x1 < w64) (b2 : x2 < w64) : W4 n = A4 x0 x1 x2 x3 := by
 have d1 : n / w64 = x1 + w64 * (x2 + w64 * x3) := by rw [e, Nat.add_mul_div_left _ _ (by decide), Nat.div_eq_of_lt b0, Nat.zero_add]
 have d2 : n / w128 = x2 + w64 * x3 := by
  rw [show w128 = w64 * w64 by decide, ← Nat.div_div_eq_div_mul, d1, Nat.add_mul_div_left _ _ (by decide), Nat.div_eq_of_lt b1, Nat.zero_add]
 have d3 : n / w192 = x3 := by
  rw [show w192 = w128 * w64 by decide, ← Nat.div_div_eq_div_mul, d2, Nat.add_mul_div_left _ _ (by decide), Nat.div_eq_of_lt b2, Nat.zero_add]
 have m0 : n % w64 = x0 := by rw [e, Nat.add_mul_mod_self_left, Nat.mod_eq_of_lt b0]
 unfold W4
 rw [d2, d3, d1, m0, Nat.add_mul_mod_self_left, Nat.mod_eq_of_lt b1, Nat.add_mul_mod_self_left, Nat.mod_eq_of_lt b2]
theorem halves_sum (l0 l1 r : Nat) : l0 + B32 * (l1 + B32 * r) = (l0 + l1 * B32) + w64 * r := by
 rw [show w64 = B32 * B32 by decide, Nat.mul_add, Nat.mul_comm l1, Nat.mul_assoc, Nat.add_assoc]
theorem words_of {l0 l1 l2 l3 l4 l5 l6 l7 n : Nat} (h : Vh [l0, l1, l2, l3, l4, l5, l6, l7] = n) (h0 : l0 < B32) (h1 : l1 < B32) (h2 : l2 < B32) (h3 : l3 < B32) (h4 : l4 < B32) (h5 : l5 < B32) :
  W4 n = A4 (l0 + l1 * B32) (l2 + l3 * B32) (l4 + l5 * B32) (l6 + l7 * B32) := by
 refine w4_of ?_ (pair_lt h0 h1) (pair_lt h2 h3) (pair_lt h4 h5)
 rw [← h]
 show l0 + B32 * (l1 + B32 * (l2 + B32 * (l3 + B32 * (l4 + B32 * (l5 + B32 * (l6 + B32 * (l7 + B32 * 0))))))) = _
 rw [halves_sum, halves_sum, halves_sum, halves_sum, Nat.mul_zero, Nat.add_zero]
end

/- Numbers of two words, further: Mul walked. No condition. -/
section
variable [Lk]
def wpart (a b c d : Nat) : Nat → List Value
 | 0 => C4 0 0 0 0
 | 1 => C4 a 0 0 0
 | 2 => C4 a b 0 0
 | 3 => C4 a b c 0
 | _ => C4 a b c d
theorem C4_same (a b c d a' b' c' d' : Nat) : (C4 a b c d).length = (C4 a' b' c' d').length := rfl
theorem lMul_spec {z : St} (wf : WF z) {a b : Nat} (ha : a < w128) (hb : b < w128) :
  Cw Tryz.prog 112 [W2 a, W2 b] z fun r s' => K0 z s' ∧ r = W4 (a * b) := by
 have hp : Hp (fun _ => False) z [] [] z := Hp.start _ wf _ (by simp)
 refine Cw.enterS Tryz.func112 rfl rfl ?_
 refine Sm.seqW ?_
 conv => whnf
 refine hp.var (cs := C2 (a % w64) (a / w64)) (e := 1) rfl rfl ?_
 clear hp
 intro p1 s hp _
 conv => whnf
 refine hp.var (cs := C2 (b % w64) (b / w64)) (e := 1) rfl rfl ?_
 clear hp
 intro p2 s hp _
 conv => whnf
 refine hp.alloc (cs := C4 0 0 0 0) (e := 1) rfl rfl rfl rfl rfl ?_
 clear hp
 intro p4 s hp _
 conv => whnf
 refine Sm.live [2, 3, 4] ?_
 conv => whnf
 refine Sm.seqW ?_
 conv => whnf
 refine hp.alloc (cs := natU [0, 0, 0, 0, 0, 0, 0, 0]) (e := 1) rfl rfl rfl rfl rfl ?_
 clear hp
 intro p5 s hp _
 conv => whnf
 refine Sm.live [2, 3, 4, 5] ?_
 conv => whnf
 refine Sm.seqW ?_
 conv => whnf
 refine ⟨[0, 1, 0, 7, 0, 0, 63, 127], by decide +kernel, by decide +kernel, ?_⟩
 conv => whnf
 refine hp.loadA (l := C2 (a % w64) (a / w64)) .d rfl (by rfl) rfl rfl ?_
 conv => whnf
 (refine hp.rst.call (lhalves_spec hp.rst.wf ha) ?_; rintro _ s1 rfl h1 k1; (conv => whnf); refine hp.dkN h1 k1 ?_; clear hp h1 k1; intro s hp; conv => whnf)
 refine hp.loadA (l := C2 (b % w64) (b / w64)) .d rfl (by rfl) rfl rfl ?_
 conv => whnf
 (refine hp.rst.call (lhalves_spec hp.rst.wf hb) ?_; rintro _ s1 rfl h1 k1; (conv => whnf); refine hp.dkN h1 k1 ?_; clear hp h1 k1; intro s hp; conv => whnf)
 refine hp.rst.alloc (cs := [.int .u32 0, .int .u32 0, .int .u32 0, .int .u32 0]) (e := 1) rfl rfl rfl rfl rfl ?_
 intro p6 s1 h1 k1
 conv => whnf
 refine hp.dkN h1 k1 ?_
 clear hp h1 k1
 intro s hp
 conv => whnf
 refine hp.rst.alloc (cs := [.int .u32 0, .int .u32 0, .int .u32 0, .int .u32 0]) (e := 1) rfl rfl rfl rfl rfl ?_
 intro p7 s1 h1 k1
 conv => whnf
 refine hp.dkN h1 k1 ?_
 clear hp h1 k1
 intro s hp
 conv => whnf
 refine hp.rst.storeW (vs := HC a) rfl .d (by rfl) rfl rfl rfl ?_
 intro s1 h1 l1
 conv => whnf
 refine hp.dkW h1 l1 ?_
 clear hp h1 l1
 intro s hp
 conv => whnf
 refine hp.rst.storeW (vs := HC b) rfl .d (by rfl) rfl rfl rfl ?_
 intro s1 h1 l1
 conv => whnf
 refine hp.dkW h1 l1 ?_
 clear hp h1 l1
 intro s hp
 conv => whnf
 refine Sm.live [4, 5, 6, 7] ?_
 conv => whnf
 refine Sm.seq ?_
 refine Sm.seqW ?_
 conv => whnf
 refine hp.loadA (l := HC a) .d rfl (by rfl) rfl rfl ?_
 conv => whnf
 refine Sm.block ?_
 refine Sm.loop ?_
 refine Lp.ofS (α := Nat × List Nat) (fun x => [(4, .pointer (some ⟨p4, 0, none⟩)), (5, .pointer (some ⟨p5, 0, none⟩)), (7, .pointer (some ⟨p7, 0, none⟩)), (20, H4 a), (21, .int .i64 (x.1 : Int))])
  (fun x s' => x.1 ≤ 4 ∧ MulOk a b x.1 0 0 x.2 ∧ Hp (fun _ => False) z [] [blkA p7 p7 (HC b) 1, blkA p5 p5 (natU x.2) 1, blkA p4 p4 (C4 0 0 0 0) 1] s') (fun x => 4 - x.1) ?_ (0, [0, 0, 0, 0, 0, 0, 0, 0]) (subK_ok (by refine ⟨rfl, rfl, rfl, rfl, rfl, trivial⟩)) ⟨by decide, MulOk.start a b, hp.pik (by repeat (first | exact Pik.nil | exact Pik.refl _ | exact Rm.here | apply Rm.there | apply Pik.cons | apply Pik.skip))⟩
 clear hp
 rintro ⟨i, l⟩ s ⟨hi, ok, hp⟩
 simp only at hi ok hp
 refine Sm.seqW ?_
 conv => whnf
 refine Sm.seqW ?_
 conv => whnf
 refine Br.mk (fun hc => ?_) (fun hc => ?_)
 · have hc : i < 4 := by have := of_decide_eq_true hc; omega
   conv => whnf
   refine Sm.seq (Sm.block ?_)
   refine Sm.seqW ?_
   conv => whnf
   refine Om.of _ (ixV a i hc) ?_
   conv => whnf
   refine Sm.seqW ?_
   conv => whnf
   refine Sm.live [4, 5, 7, 8, 9, 10, 20, 21] ?_
   conv => whnf
   refine Sm.seq ?_
   refine Sm.seqW ?_
   conv => whnf
   refine hp.loadA (l := HC b) .d rfl (by rfl) rfl rfl ?_
   conv => whnf
   refine Sm.block ?_
   refine Sm.loop ?_
   refine Lp.ofS (α := Nat × Nat × List Nat) (fun y => [(4, .pointer (some ⟨p4, 0, none⟩)), (5, .pointer (some ⟨p5, 0, none⟩)), (7, .pointer (some ⟨p7, 0, none⟩)), (8, .int .i64 (i : Int)), (9, .int .u32 (hv a i : Int)), (10, .int .u64 (y.2.1 : Int)), (20, H4 a), (21, .int .i64 (i : Int)), (25, H4 b), (26, .int .i64 (y.1 : Int))])
    (fun y s' => y.1 ≤ 4 ∧ MulOk a b i y.1 y.2.1 y.2.2 ∧ Hp (fun _ => False) z [] [blkA p7 p7 (HC b) 1, blkA p5 p5 (natU y.2.2) 1, blkA p4 p4 (C4 0 0 0 0) 1] s') (fun y => 4 - y.1) ?_ (0, 0, l) (subK_ok (by refine ⟨rfl, rfl, rfl, rfl, rfl, rfl, rfl, rfl, rfl, rfl, trivial⟩)) ⟨Nat.zero_le _, ok, hp.pik (by repeat (first | exact Pik.nil | exact Pik.refl _ | exact Rm.here | apply Rm.there | apply Pik.cons | apply Pik.skip))⟩
   clear hp ok
   rintro ⟨j, c, m⟩ s ⟨hj, ok, hp⟩
   simp only at hj ok hp
   refine Sm.seqW ?_
   conv => whnf
   refine Sm.seqW ?_
   conv => whnf
   refine Br.mk (fun hq => ?_) (fun hq => ?_)
   · have hq : j < 4 := by have := of_decide_eq_true hq; omega
     obtain ⟨hk, hlt, ok2⟩ := ok.step hc hq
     conv => whnf
     refine Sm.seq (Sm.block ?_)
     refine Sm.seqW ?_
     conv => whnf
     refine Om.of _ (ixV b j hq) ?_
     conv => whnf
     refine Sm.live [4, 5, 7, 8, 9, 10, 11, 12, 20, 21, 25, 26] ?_
     conv => whnf
     refine Sm.seqW ?_
     conv => whnf
     have eij : IntKind.i64.wrap ((i : Int) + (j : Int)) = ((i + j : Nat) : Int) := by rw [wi64 (by omega) (by omega)]; push_cast; rfl
     rw [eij]
     refine Om.of _ (ixA Tryz.underlying190 rfl rfl .i64 (show i + j < 8 by omega)) ?_
     conv => whnf
     refine hp.load (v := .int .u64 (m[i + j] : Int)) .d (by rw [Nat.zero_add]; exact natU_get m _ hk) rfl rfl rfl ?_
     conv => whnf
     have e1 : IntKind.u64.wrap (hv a i : Int) = (hv a i : Int) := by
      have := hv_lt a i
      rw [wrap_u64, Nat.mod_eq_of_lt (by simp only [B32] at this; omega)]
     have e2 : IntKind.u64.wrap (hv b j : Int) = (hv b j : Int) := by
      have := hv_lt b j
      rw [wrap_u64, Nat.mod_eq_of_lt (by simp only [B32] at this; omega)]
     have hlt' : hv a i * hv b j + m[i + j] + c < 18446744073709551616 := hlt
     have e3 : IntKind.u64.wrap (IntKind.u64.wrap (IntKind.u64.wrap (IntKind.u64.wrap (hv a i : Int) * IntKind.u64.wrap (hv b j : Int)) + (m[i + j] : Int)) + (c : Int)) = ((hv a i * hv b j + m[i + j] + c : Nat) : Int) := by
      rw [e1, e2, ← Int.natCast_mul, wrap_u64, Nat.mod_eq_of_lt (by omega), ← Int.natCast_add, wrap_u64, Nat.mod_eq_of_lt (by omega), ← Int.natCast_add, wrap_u64, Nat.mod_eq_of_lt hlt']
     rw [e3]
     generalize hn : hv a i * hv b j + m[i + j] + c = n at *
     refine Sm.live [4, 5, 7, 8, 9, 11, 13, 20, 21, 25, 26] ?_
     conv => whnf
     refine Sm.seqW ?_
     conv => whnf
     rw [eij]
     refine Om.of _ (ixA Tryz.underlying190 rfl rfl .i64 (show i + j < 8 by omega)) ?_
     conv => whnf
     have e4 : IntKind.u64.wrap (IntKind.u32.wrap (n : Int)) = ((n % B32 : Nat) : Int) := by
      rw [wrap_u32, wrap_u64, Nat.mod_eq_of_lt (by have := Nat.mod_lt n (show 0 < 4294967296 by decide); omega)]
     rw [e4]
     refine hp.store .d (by rw [natU_len]; omega) rfl rfl rfl rfl ?_
     clear hp
     intro s hp _
     rw [Nat.zero_add, natU_set] at hp
     conv => whnf
     refine Sm.ofW ?_
     conv => whnf
     refine Om.of _ (congrArg (fun x => some (Value.int .u64 x)) (fdiv32 _)) ?_
     conv => whnf
     refine Sm.ofW ?_
     conv => whnf
     have ej : IntKind.i64.wrap ((j : Int) + 1) = ((j + 1 : Nat) : Int) := by rw [wi64 (by omega) (by omega)]; push_cast; rfl
     refine ⟨(j + 1, n / B32, m.set (i + j) (n % B32)), by (show 4 - (j + 1) < 4 - j); omega, subK_ok (by refine ⟨rfl, rfl, rfl, rfl, rfl, rfl, rfl, rfl, rfl, congrArg (fun x => some (Value.int .i64 x)) ej, trivial⟩), hq, ok2, hp.pik (by repeat (first | exact Pik.nil | exact Pik.refl _ | exact Rm.here | apply Rm.there | apply Pik.cons | apply Pik.skip))⟩
   · have hq : j = 4 := by have := of_decide_eq_false hq; omega
     subst hq
     obtain ⟨hk, ok2⟩ := ok.row hc hb
     conv => whnf
     refine Sm.ofW ?_
     conv => whnf
     have ei4 : IntKind.i64.wrap ((i : Int) + 4) = ((i + 4 : Nat) : Int) := by rw [wi64 (by omega) (by omega)]; push_cast; rfl
     rw [ei4]
     refine Om.of _ (ixA Tryz.underlying190 rfl rfl .i64 (show i + 4 < 8 by omega)) ?_
     conv => whnf
     refine hp.store .d (by rw [natU_len]; omega) rfl rfl rfl rfl ?_
     clear hp
     intro s hp _
     rw [Nat.zero_add, natU_set] at hp
     conv => whnf
     refine Sm.ofW ?_
     conv => whnf
     have ei : IntKind.i64.wrap ((i : Int) + 1) = ((i + 1 : Nat) : Int) := by rw [wi64 (by omega) (by omega)]; push_cast; rfl
     refine ⟨(i + 1, m.set (i + 4) c), by (show 4 - (i + 1) < 4 - i); omega, subK_ok (by refine ⟨rfl, rfl, rfl, rfl, congrArg (fun x => some (Value.int .i64 x)) ei, trivial⟩), hc, ok2, hp.pik (by repeat (first | exact Pik.nil | exact Pik.refl _ | exact Rm.here | apply Rm.there | apply Pik.cons | apply Pik.skip))⟩
 · have hc : i = 4 := by have := of_decide_eq_false hc; omega
   subst hc
   conv => whnf
   have hsum := ok.done rfl ha
   have hlt := ok.lt
   obtain ⟨l0, l1, l2, l3, l4, l5, l6, l7, rfl⟩ : ∃ l0 l1 l2 l3 l4 l5 l6 l7, l = [l0, l1, l2, l3, l4, l5, l6, l7] := by
    have hlen := ok.len
    match l, hlen with
    | [l0, l1, l2, l3, l4, l5, l6, l7], _ => exact ⟨l0, l1, l2, l3, l4, l5, l6, l7, rfl⟩
   clear ok
   have g0 := hlt l0 (by simp)
   have g1 := hlt l1 (by simp)
   have g2 := hlt l2 (by simp)
   have g3 := hlt l3 (by simp)
   have g4 := hlt l4 (by simp)
   have g5 := hlt l5 (by simp)
   have g6 := hlt l6 (by simp)
   have g7 := hlt l7 (by simp)
   have hw := words_of hsum g0 g1 g2 g3 g4 g5
   clear hlt hsum
   have wd : ∀ x y : Nat, x < B32 → y < B32 → IntKind.u64.wrap ((BitVec.ofInt IntKind.u64.bits (x : Int) ||| BitVec.ofInt IntKind.u64.bits (IntKind.u64.wrap ((y : Int) * 2 ^ 32))).toNat : Int) = ((x + y * B32 : Nat) : Int) := by
    intro x y hx hy
    have hx : x < 4294967296 := hx
    have hy : y < 4294967296 := hy
    have e : IntKind.u64.wrap ((y : Int) * 2 ^ 32) = ((y * 4294967296 : Nat) : Int) := by
     rw [show ((2 : Int) ^ 32) = ((4294967296 : Nat) : Int) from rfl, ← Int.natCast_mul, wrap_u64, Nat.mod_eq_of_lt (by omega)]
    rw [e, or_u64 (by omega) (by omega)]
    have := or_shift (a := x) (b := y) (k := 32) (by omega)
    rw [show (2 : Nat) ^ 32 = 4294967296 by decide] at this
    rw [this]
   rw [hw]
   clear hw
   have w0 := wd l0 l1 g0 g1
   have w1 := wd l2 l3 g2 g3
   have w2 := wd l4 l5 g4 g5
   have w3 := wd l6 l7 g6 g7
   clear wd
   generalize l0 + l1 * B32 = x0 at w0 ⊢
   generalize l2 + l3 * B32 = x1 at w1 ⊢
   generalize l4 + l5 * B32 = x2 at w2 ⊢
   generalize l6 + l7 * B32 = x3 at w3 ⊢
   refine Sm.live [4, 5] ?_
   conv => whnf
   refine Sm.seqW ?_
   conv => whnf
   refine hp.alloc (cs := C4 0 0 0 0) (e := 1) rfl rfl rfl rfl rfl ?_
   clear hp
   intro p14 s hp _
   conv => whnf
   refine Sm.seq (Sm.mono (Q := fun e L' s' => e = .normal ∧ Hp (fun _ => False) z [] [blkA p14 p14 (C4 x0 x1 x2 x3) 1, blkA p4 p4 (C4 0 0 0 0) 1] s' ∧ Sub [(4, .pointer (some ⟨p4, 0, none⟩)), (14, .pointer (some ⟨p14, 0, none⟩))] L') ?_ ?_)
   · refine Sm.seqW ?_
     conv => whnf
     refine Sm.block ?_
     refine Sm.loop ?_
     refine Lp.ofS (α := Nat) (fun k => [(4, .pointer (some ⟨p4, 0, none⟩)), (5, .pointer (some ⟨p5, 0, none⟩)), (14, .pointer (some ⟨p14, 0, none⟩)), (58, .int .i64 (k : Int))])
      (fun k s' => k ≤ 4 ∧ Hp (fun _ => False) z [] [blkA p14 p14 (wpart x0 x1 x2 x3 k) 1, blkA p5 p5 (natU [l0, l1, l2, l3, l4, l5, l6, l7]) 1, blkA p4 p4 (C4 0 0 0 0) 1] s') (fun k => 4 - k) ?_ 0 (subK_ok (by refine ⟨rfl, rfl, rfl, rfl, trivial⟩)) ⟨by decide, hp.pik (by repeat (first | exact Pik.nil | exact Pik.refl _ | exact Rm.here | apply Rm.there | apply Pik.cons | apply Pik.skip))⟩
     clear hp
     rintro k s ⟨hk, hp⟩
     have hcase : k = 0 ∨ k = 1 ∨ k = 2 ∨ k = 3 ∨ k = 4 := by omega
     rcases hcase with rfl | rfl | rfl | rfl | rfl
     · refine Sm.seqW ?_
       conv => whnf
       refine Sm.seqW ?_
       conv => whnf
       refine Br.yes rfl ?_
       conv => whnf
       refine Sm.seq (Sm.block ?_)
       refine Sm.seqW ?_
       conv => whnf
       refine Sm.ofW ?_
       conv => whnf
       refine ⟨[0, 0, 2, 6, 14, 0, 32, 96, 224, 480, 992, 2046, 4095, 8191], by decide +kernel, by decide +kernel, ?_⟩
       conv => whnf
       refine Om.of (.pointer (some ⟨p5, 0, none⟩)) rfl ?_
       conv => whnf
       refine hp.load (v := .int .u64 (l0 : Int)) .d (by rfl) rfl rfl rfl ?_
       conv => whnf
       refine Om.of (.pointer (some ⟨p5, 1, none⟩)) rfl ?_
       conv => whnf
       refine hp.load (v := .int .u64 (l1 : Int)) .d (by rfl) rfl rfl rfl ?_
       conv => whnf
       refine Om.of (.int .u64 (IntKind.u64.wrap ((l1 : Int) * 2 ^ 32))) rfl ?_
       conv => whnf
       rw [w0]
       refine Om.of (.pointer (some ⟨p14, 0, none⟩)) rfl ?_
       conv => whnf
       refine hp.rst.store .d (by show 0 < 4; decide) rfl rfl rfl rfl ?_
       intro s1 h1 l1'
       conv => whnf
       refine hp.dkW h1 l1' ?_
       clear hp h1 l1'
       intro s hp
       conv => whnf
       refine Sm.ofW ?_
       conv => whnf
       exact ⟨1, by decide, subK_ok (by refine ⟨rfl, rfl, rfl, rfl, trivial⟩), by decide, hp.pik (by repeat (first | exact Pik.nil | exact Pik.refl _ | exact Rm.here | apply Rm.there | apply Pik.cons | apply Pik.skip))⟩
     · refine Sm.seqW ?_
       conv => whnf
       refine Sm.seqW ?_
       conv => whnf
       refine Br.yes rfl ?_
       conv => whnf
       refine Sm.seq (Sm.block ?_)
       refine Sm.seqW ?_
       conv => whnf
       refine Sm.ofW ?_
       conv => whnf
       refine ⟨[0, 0, 2, 6, 14, 0, 32, 96, 224, 480, 992, 2046, 4095, 8191], by decide +kernel, by decide +kernel, ?_⟩
       conv => whnf
       refine Om.of (.pointer (some ⟨p5, 2, none⟩)) rfl ?_
       conv => whnf
       refine hp.load (v := .int .u64 (l2 : Int)) .d (by rfl) rfl rfl rfl ?_
       conv => whnf
       refine Om.of (.pointer (some ⟨p5, 3, none⟩)) rfl ?_
       conv => whnf
       refine hp.load (v := .int .u64 (l3 : Int)) .d (by rfl) rfl rfl rfl ?_
       conv => whnf
       refine Om.of (.int .u64 (IntKind.u64.wrap ((l3 : Int) * 2 ^ 32))) rfl ?_
       conv => whnf
       rw [w1]
       refine Om.of (.pointer (some ⟨p14, 1, none⟩)) rfl ?_
       conv => whnf
       refine hp.rst.store .d (by show 1 < 4; decide) rfl rfl rfl rfl ?_
       intro s1 h1 l1'
       conv => whnf
       refine hp.dkW h1 l1' ?_
       clear hp h1 l1'
       intro s hp
       conv => whnf
       refine Sm.ofW ?_
       conv => whnf
       exact ⟨2, by decide, subK_ok (by refine ⟨rfl, rfl, rfl, rfl, trivial⟩), by decide, hp.pik (by repeat (first | exact Pik.nil | exact Pik.refl _ | exact Rm.here | apply Rm.there | apply Pik.cons | apply Pik.skip))⟩
     · refine Sm.seqW ?_
       conv => whnf
       refine Sm.seqW ?_
       conv => whnf
       refine Br.yes rfl ?_
       conv => whnf
       refine Sm.seq (Sm.block ?_)
       refine Sm.seqW ?_
       conv => whnf
       refine Sm.ofW ?_
       conv => whnf
       refine ⟨[0, 0, 2, 6, 14, 0, 32, 96, 224, 480, 992, 2046, 4095, 8191], by decide +kernel, by decide +kernel, ?_⟩
       conv => whnf
       refine Om.of (.pointer (some ⟨p5, 4, none⟩)) rfl ?_
       conv => whnf
       refine hp.load (v := .int .u64 (l4 : Int)) .d (by rfl) rfl rfl rfl ?_
       conv => whnf
       refine Om.of (.pointer (some ⟨p5, 5, none⟩)) rfl ?_
       conv => whnf
       refine hp.load (v := .int .u64 (l5 : Int)) .d (by rfl) rfl rfl rfl ?_
       conv => whnf
       refine Om.of (.int .u64 (IntKind.u64.wrap ((l5 : Int) * 2 ^ 32))) rfl ?_
       conv => whnf
       rw [w2]
       refine Om.of (.pointer (some ⟨p14, 2, none⟩)) rfl ?_
       conv => whnf
       refine hp.rst.store .d (by show 2 < 4; decide) rfl rfl rfl rfl ?_
       intro s1 h1 l1'
       conv => whnf
       refine hp.dkW h1 l1' ?_
       clear hp h1 l1'
       intro s hp
       conv => whnf
       refine Sm.ofW ?_
       conv => whnf
       exact ⟨3, by decide, subK_ok (by refine ⟨rfl, rfl, rfl, rfl, trivial⟩), by decide, hp.pik (by repeat (first | exact Pik.nil | exact Pik.refl _ | exact Rm.here | apply Rm.there | apply Pik.cons | apply Pik.skip))⟩
     · refine Sm.seqW ?_
       conv => whnf
       refine Sm.seqW ?_
       conv => whnf
       refine Br.yes rfl ?_
       conv => whnf
       refine Sm.seq (Sm.block ?_)
       refine Sm.seqW ?_
       conv => whnf
       refine Sm.ofW ?_
       conv => whnf
       refine ⟨[0, 0, 2, 6, 14, 0, 32, 96, 224, 480, 992, 2046, 4095, 8191], by decide +kernel, by decide +kernel, ?_⟩
       conv => whnf
       refine Om.of (.pointer (some ⟨p5, 6, none⟩)) rfl ?_
       conv => whnf
       refine hp.load (v := .int .u64 (l6 : Int)) .d (by rfl) rfl rfl rfl ?_
       conv => whnf
       refine Om.of (.pointer (some ⟨p5, 7, none⟩)) rfl ?_
       conv => whnf
       refine hp.load (v := .int .u64 (l7 : Int)) .d (by rfl) rfl rfl rfl ?_
       conv => whnf
       refine Om.of (.int .u64 (IntKind.u64.wrap ((l7 : Int) * 2 ^ 32))) rfl ?_
       conv => whnf
       rw [w3]
       refine Om.of (.pointer (some ⟨p14, 3, none⟩)) rfl ?_
       conv => whnf
       refine hp.rst.store .d (by show 3 < 4; decide) rfl rfl rfl rfl ?_
       intro s1 h1 l1'
       conv => whnf
       refine hp.dkW h1 l1' ?_
       clear hp h1 l1'
       intro s hp
       conv => whnf
       refine Sm.ofW ?_
       conv => whnf
       exact ⟨4, by decide, subK_ok (by refine ⟨rfl, rfl, rfl, rfl, trivial⟩), by decide, hp.pik (by repeat (first | exact Pik.nil | exact Pik.refl _ | exact Rm.here | apply Rm.there | apply Pik.cons | apply Pik.skip))⟩
     · refine Sm.seqW ?_
       conv => whnf
       refine Sm.seqW ?_
       conv => whnf
       refine Br.no rfl ?_
       conv => whnf
       exact ⟨rfl, hp.pik (by repeat (first | exact Pik.nil | exact Pik.refl _ | exact Rm.here | apply Rm.there | apply Pik.cons | apply Pik.skip)), subK_ok ⟨rfl, rfl, trivial⟩⟩
   clear hp
   rintro e L' s ⟨rfl, hp, hs⟩
   refine Sm.weak _ hs ?_
   clear hs
   refine Sm.seqW ?_
   conv => whnf
   refine hp.loadA (l := C4 x0 x1 x2 x3) .d rfl (by rfl) rfl rfl ?_
   conv => whnf
   refine hp.storeW (vs := C4 x0 x1 x2 x3) rfl .d (C4_same ..) rfl rfl rfl ?_
   clear hp
   intro s hp _
   conv => whnf
   refine Sm.ofW ?_
   conv => whnf
   refine hp.loadA (l := C4 x0 x1 x2 x3) .d rfl (by rfl) rfl rfl ?_
   conv => whnf
   exact ⟨hp.fr, rfl⟩
end

/- Decimals: powers of ten, what is right. No condition. -/
section
variable [Lk]
theorem C2_same (a b a' b' : Nat) : (C2 a b).length = (C2 a' b').length := rfl
theorem ten_lt {k : Nat} (h : k ≤ 38) : 10 ^ k < w128 := Nat.lt_of_le_of_lt (Nat.pow_le_pow_right (by decide) h) (by decide)
theorem lShort_ok {z : St} (wf : WF z) {n : Nat} (hn : n < w128) :
  Cw Tryz.prog 114 [W4 n] z fun r s' => K0 z s' ∧ r = .tuple #[W2 n, .bool true] :=
 (lShort_spec wf (Nat.lt_trans hn (by decide))).mono fun r s' ⟨h1, h2⟩ => ⟨h1, h2.trans (if_pos hn)⟩
theorem lTen_spec {z : St} (wf : WF z) {k : Nat} (hk : k ≤ 38) :
  Cw Tryz.prog 138 [.int .i64 (k : Int)] z fun r s' => K0 z s' ∧ r = .tuple #[W2 (10 ^ k), .bool true] := by
 have hp : Hp (fun _ => False) z [] [] z := Hp.start _ wf _ (by simp)
 refine Cw.enterS Tryz.func138 rfl rfl ?_
 refine Sm.seqW ?_
 conv => whnf
 refine hp.alloc (cs := C2 0 0) (e := 1) rfl rfl rfl rfl rfl ?_
 clear hp
 intro p2 s hp _
 conv => whnf
 refine Sm.live [0, 2, 3] ?_
 conv => whnf
 refine Sm.seq ?_
 refine Sm.seqW ?_
 conv => whnf
 have d1 : decide ((k : Int) < 0) = false := decide_eq_false (by omega)
 have d2 : decide ((k : Int) > 38) = false := decide_eq_false (by omega)
 repeat (first | (refine Br.no d1 ?_; conv => whnf) | (refine Br.no d2 ?_; conv => whnf))
 refine Sm.ofW ?_
 conv => whnf
 repeat (first | (refine Br.no d1 ?_; conv => whnf) | (refine Br.no d2 ?_; conv => whnf))
 clear d1 d2
 refine Sm.live [0, 2, 3] ?_
 conv => whnf
 refine Sm.seqW ?_
 conv => whnf
 (refine hp.call (lOf_spec hp.wf (a := 1) (by decide)) ?_; clear hp; rintro _ s rfl hp _; conv => whnf)
 refine hp.alloc (cs := C2 0 0) (e := 1) rfl rfl rfl rfl rfl ?_
 clear hp
 intro p4 s hp _
 conv => whnf
 refine hp.storeW (vs := C2 1 0) rfl .d (C2_same ..) rfl rfl rfl ?_
 clear hp
 intro s hp _
 conv => whnf
 refine Sm.live [0, 2, 3, 4] ?_
 conv => whnf
 refine Sm.seq (Sm.mono (Q := fun e L' s' => e = .normal ∧ Hp (fun _ => False) z [] [blkA p4 p4 (C2 (10 ^ k % w64) (10 ^ k / w64)) 1, blkA p2 p2 (C2 0 0) 1] s' ∧ Sub [(2, .pointer (some ⟨p2, 0, none⟩)), (4, .pointer (some ⟨p4, 0, none⟩))] L') ?_ ?_)
 · refine Sm.seqW ?_
   conv => whnf
   refine Sm.block ?_
   refine Sm.loop ?_
   refine Lp.ofS (α := Nat) (fun i => [(2, .pointer (some ⟨p2, 0, none⟩)), (4, .pointer (some ⟨p4, 0, none⟩)), (13, .int .i64 (k : Int)), (14, .int .i64 (i : Int))])
    (fun i s' => i ≤ k ∧ Hp (fun _ => False) z [] [blkA p4 p4 (C2 (10 ^ i % w64) (10 ^ i / w64)) 1, blkA p2 p2 (C2 0 0) 1] s') (fun i => k - i) ?_ 0 (subK_ok (by refine ⟨rfl, rfl, rfl, rfl, trivial⟩)) ⟨Nat.zero_le _, hp.pik (by repeat (first | exact Pik.nil | exact Pik.refl _ | exact Rm.here | apply Rm.there | apply Pik.cons | apply Pik.skip))⟩
   clear hp
   rintro i s ⟨hi, hp⟩
   refine Sm.seqW ?_
   conv => whnf
   refine Sm.seqW ?_
   conv => whnf
   refine Br.mk (fun hc => ?_) (fun hc => ?_)
   · have hc : i < k := by have := of_decide_eq_true hc; omega
     have h1 := ten_lt (k := i) (by omega)
     have h2 : 10 ^ i * 10 < w128 := by rw [← Nat.pow_succ]; exact ten_lt (by omega)
     have hw1 : w128 < w256 := by decide
     conv => whnf
     refine Sm.seq (Sm.block ?_)
     refine Sm.ofW ?_
     conv => whnf
     refine ⟨[0, 0, 3, 7, 15, 31, 31, 63], by decide +kernel, by decide +kernel, ?_⟩
     conv => whnf
     refine hp.loadA (l := C2 (10 ^ i % w64) (10 ^ i / w64)) .d rfl (by rfl) rfl rfl ?_
     conv => whnf
     (refine hp.rst.call (lOf_spec hp.rst.wf (a := 10) (by decide)) ?_; rintro _ s1 rfl h1 k1; (conv => whnf); refine hp.dkN h1 k1 ?_; clear hp h1 k1; intro s hp; conv => whnf)
     (refine hp.rst.call (lMul_spec hp.rst.wf (a := 10 ^ i) (b := 10) h1 (by decide)) ?_; rintro _ s1 rfl h1 k1; (conv => whnf); refine hp.dkN h1 k1 ?_; clear hp h1 k1; intro s hp; conv => whnf)
     (refine hp.rst.call (lShort_ok hp.rst.wf (n := 10 ^ i * 10) h2) ?_; rintro _ s1 rfl h1 k1; (conv => whnf); refine hp.dkN h1 k1 ?_; clear hp h1 k1; intro s hp; conv => whnf)
     rw [← Nat.pow_succ]
     refine hp.rst.storeW (vs := C2 (10 ^ (i + 1) % w64) (10 ^ (i + 1) / w64)) rfl .d (C2_same ..) rfl rfl rfl ?_
     intro s1 h1 l1
     conv => whnf
     refine hp.dkW h1 l1 ?_
     clear hp h1 l1
     intro s hp
     conv => whnf
     refine Sm.ofW ?_
     conv => whnf
     have ei : IntKind.i64.wrap ((i : Int) + 1) = ((i + 1 : Nat) : Int) := by rw [wi64 (by omega) (by omega)]; push_cast; rfl
     exact ⟨i + 1, by (show k - (i + 1) < k - i); omega, subK_ok (by refine ⟨rfl, rfl, rfl, congrArg (fun x => some (Value.int .i64 x)) ei, trivial⟩), hc, hp.pik (by repeat (first | exact Pik.nil | exact Pik.refl _ | exact Rm.here | apply Rm.there | apply Pik.cons | apply Pik.skip))⟩
   · have hc : i = k := by have := of_decide_eq_false hc; omega
     subst hc
     conv => whnf
     exact ⟨rfl, hp, subK_ok ⟨rfl, rfl, trivial⟩⟩
 clear hp
 rintro e L' s ⟨rfl, hp, hs⟩
 refine Sm.weak _ hs ?_
 clear hs
 refine Sm.seqW ?_
 conv => whnf
 refine hp.loadA (l := C2 (10 ^ k % w64) (10 ^ k / w64)) .d rfl (by rfl) rfl rfl ?_
 conv => whnf
 refine hp.storeW (vs := C2 (10 ^ k % w64) (10 ^ k / w64)) rfl .d (C2_same ..) rfl rfl rfl ?_
 clear hp
 intro s hp _
 conv => whnf
 refine Sm.ofW ?_
 conv => whnf
 refine hp.loadA (l := C2 (10 ^ k % w64) (10 ^ k / w64)) .d rfl (by rfl) rfl rfl ?_
 conv => whnf
 exact ⟨hp.fr, rfl⟩
theorem dten_spec {z : St} (wf : WF z) {k : Nat} (hk : k ≤ 38) :
  Cw Tryz.prog 113 [.int .i64 (k : Int)] z fun r s' => K0 z s' ∧ r = W2 (10 ^ k) := by
 have hp : Hp (fun _ => False) z [] [] z := Hp.start _ wf _ (by simp)
 refine Cw.enterS Tryz.func113 rfl rfl ?_
 refine Sm.seqW ?_
 conv => whnf
 refine hp.alloc (cs := C2 0 0) (e := 1) rfl rfl rfl rfl rfl ?_
 clear hp
 intro p2 s hp _
 conv => whnf
 refine Sm.seqW ?_
 conv => whnf
 (refine hp.call (lTen_spec hp.wf hk) ?_; clear hp; rintro _ s rfl hp _; conv => whnf)
 refine hp.alloc (cs := C2 0 0) (e := 1) rfl rfl rfl rfl rfl ?_
 clear hp
 intro p3 s hp _
 conv => whnf
 refine hp.storeW (vs := C2 (10 ^ k % w64) (10 ^ k / w64)) rfl .d (C2_same ..) rfl rfl rfl ?_
 clear hp
 intro s hp _
 conv => whnf
 refine Sm.seqW ?_
 conv => whnf
 refine hp.loadA (l := C2 (10 ^ k % w64) (10 ^ k / w64)) .d rfl (by rfl) rfl rfl ?_
 conv => whnf
 refine hp.storeW (vs := C2 (10 ^ k % w64) (10 ^ k / w64)) rfl .d (C2_same ..) rfl rfl rfl ?_
 clear hp
 intro s hp _
 conv => whnf
 refine Sm.ofW ?_
 conv => whnf
 refine hp.loadA (l := C2 (10 ^ k % w64) (10 ^ k / w64)) .d rfl (by rfl) rfl rfl ?_
 conv => whnf
 exact ⟨hp.fr, rfl⟩
theorem small_spec {z : St} (wf : WF z) {n : Nat} (hn : n < w128) :
  Cw Tryz.prog 111 [W2 n] z fun r s' => K0 z s' ∧ r = .bool (decide (n < 10 ^ 30)) := by
 have hp : Hp (fun _ => False) z [] [] z := Hp.start _ wf _ (by simp)
 refine Cw.enterS Tryz.func111 rfl rfl ?_
 refine Sm.seqW ?_
 conv => whnf
 refine hp.var (cs := C2 (n % w64) (n / w64)) (e := 1) rfl rfl ?_
 clear hp
 intro p1 s hp _
 conv => whnf
 refine Sm.seqW ?_
 conv => whnf
 refine ⟨[0, 0, 3, 7, 15], by decide +kernel, by decide +kernel, ?_⟩
 conv => whnf
 refine hp.loadA (l := C2 (n % w64) (n / w64)) .d rfl (by rfl) rfl rfl ?_
 conv => whnf
 (refine hp.rst.call (dten_spec hp.rst.wf (k := 30) (by decide)) ?_; rintro _ s1 rfl h1 k1; (conv => whnf); refine hp.dkN h1 k1 ?_; clear hp h1 k1; intro s hp; conv => whnf)
 (refine hp.rst.call (lCmp_spec hp.rst.wf (a := n) (b := 10 ^ 30) hn (ten_lt (by decide))) ?_; rintro _ s1 rfl h1 k1; (conv => whnf); refine hp.dkN h1 k1 ?_; clear hp h1 k1; intro s hp; conv => whnf)
 refine Sm.ofW ?_
 conv => whnf
 refine ⟨hp.fr, congrArg Value.bool ?_⟩
 apply decide_eq_decide.2
 unfold cmpI
 by_cases h : n < 10 ^ 30
 · rw [if_pos h]; simp [h]
 · rw [if_neg h]
   split <;> simp [h]
theorem arr_e (a b a' b' : Nat) : evEq Tryz.prog 10000 27 (A2 a b) (A2 a' b') = some (((a : Int) == (a' : Int)) && ((b : Int) == (b' : Int))) := by
 have e : ∀ p q : Bool, ((a : Int) == (a' : Int)) = p → ((b : Int) == (b' : Int)) = q → evEq Tryz.prog 10000 27 (A2 a b) (A2 a' b') = some (p && q) := by
  intro p q h1 h2
  conv => lhs; whnf
  show (match (some ((a : Int) == (a' : Int)) : Option Bool) with | some true => (match (some ((b : Int) == (b' : Int)) : Option Bool) with | some true => some true | some false => some false | none => none) | some false => some false | none => none) = _
  rw [h1, h2]
  cases p <;> cases q <;> rfl
 exact e _ _ rfl rfl
theorem arr_eq (a b a' b' : Nat) (c : Bool) : evBin Tryz.prog .eql 27 c (A2 a b) (A2 a' b') = some (.bool (((a : Int) == (a' : Int)) && ((b : Int) == (b' : Int)))) := by
 have hg : Tryz.prog.eqGuardType Tryz.prog.depth 27 = false := by decide +kernel
 show (match !(Tryz.prog.eqGuardType Tryz.prog.depth 27) with | false => none | true => (match evEq Tryz.prog 10000 27 (A2 a b) (A2 a' b') with | some b => some (Value.bool b) | none => none)) = _
 rw [hg, arr_e]; rfl
theorem zero_iff (n : Nat) : (((n % w64 : Nat) : Int) == ((0 : Nat) : Int) && ((n / w64 : Nat) : Int) == ((0 : Nat) : Int)) = decide (n = 0) := by
 by_cases h : n = 0
 · subst h; rfl
 · rw [decide_eq_false h, Bool.and_eq_false_iff]
   by_cases h1 : n % w64 = 0
   · right
     rw [beq_eq_false_iff_ne]
     intro h2
     apply h
     have h2 : n / w64 = 0 := Int.ofNat.inj h2
     simp only [w64] at *; omega
   · left
     rw [beq_eq_false_iff_ne]
     intro h2
     exact h1 (Int.ofNat.inj h2)
theorem z_eq (n : Nat) (c : Bool) : evBin Tryz.prog .eql 27 c (W2 n) (A2 0 0) = some (.bool (decide (n = 0))) := by
 unfold W2; rw [arr_eq, zero_iff]
theorem nought_spec {z : St} (wf : WF z) (n : Nat) :
  Cw Tryz.prog 73 [W2 n] z fun r s' => K0 z s' ∧ r = .bool (decide (n = 0)) := by
 have hp : Hp (fun _ => False) z [] [] z := Hp.start _ wf _ (by simp)
 refine Cw.enterS Tryz.func73 rfl rfl ?_
 refine Sm.seqW ?_
 conv => whnf
 refine hp.var (cs := C2 (n % w64) (n / w64)) (e := 1) rfl rfl ?_
 clear hp
 intro p1 s hp _
 conv => whnf
 refine Sm.seqW ?_
 conv => whnf
 refine hp.loadA (l := C2 (n % w64) (n / w64)) .d rfl (by rfl) rfl rfl ?_
 conv => whnf
 refine Om.of _ (z_eq n _) ?_
 conv => whnf
 refine Sm.ofW ?_
 conv => whnf
 exact ⟨hp.fr, rfl⟩
structure Dc where
 neg : Bool
 c : Nat
 scale : Int
def Dc.cells (d : Dc) : List Value := [.bool d.neg, .int .u64 ((d.c % w64 : Nat) : Int), .int .u64 ((d.c / w64 : Nat) : Int), .int .i64 d.scale]
def Dc.val (d : Dc) : Value := .agg #[.bool d.neg, .int .u64 ((d.c % w64 : Nat) : Int), .int .u64 ((d.c / w64 : Nat) : Int), .int .i64 d.scale]
def Dc.right (d : Dc) : Bool := decide (d.c < 10 ^ 30) && (decide (d.scale ≥ 0) && (decide (d.scale ≤ 9) && !(d.neg && decide (d.c = 0))))
theorem right_spec {z : St} (wf : WF z) (d : Dc) (hd : d.c < w128) :
  Cw Tryz.prog 67 [d.val] z fun r s' => K0 z s' ∧ r = .bool d.right := by
 have hp : Hp (fun _ => False) z [] [] z := Hp.start _ wf _ (by simp)
 obtain ⟨ng, n, sc⟩ := d
 simp only at hd
 refine Cw.enterS Tryz.func67 rfl rfl ?_
 refine Sm.seqW ?_
 conv => whnf
 refine hp.var (cs := Dc.cells ⟨ng, n, sc⟩) (e := 4) rfl rfl ?_
 clear hp
 intro p1 s hp _
 conv => whnf
 refine Sm.live [1] ?_
 conv => whnf
 refine Sm.seqW ?_
 conv => whnf
 refine hp.loadA (off := 1) (l := C2 (n % w64) (n / w64)) .d rfl (by rfl) rfl rfl ?_
 conv => whnf
 (refine hp.call (small_spec hp.wf hd) ?_; clear hp; rintro _ s rfl hp _; conv => whnf)
 cases h1 : decide (n < 10 ^ 30) with
 | false =>
   repeat ((first | refine Br.y1 ?_ | refine Br.n1 ?_); conv => whnf)
   refine Sm.ofW ?_
   conv => whnf
   exact ⟨hp.fr, congrArg Value.bool (by unfold Dc.right; rw [h1]; rfl)⟩
 | true =>
   repeat ((first | refine Br.y1 ?_ | refine Br.n1 ?_); conv => whnf)
   refine hp.load (off := 3) (v := .int .i64 sc) .d (by rfl) rfl rfl rfl ?_
   conv => whnf
   repeat ((first | refine Br.y1 ?_ | refine Br.n1 ?_); conv => whnf)
   cases h2 : decide (sc ≥ 0) with
   | false =>
     repeat ((first | refine Br.y1 ?_ | refine Br.n1 ?_); conv => whnf)
     refine Sm.ofW ?_
     conv => whnf
     exact ⟨hp.fr, congrArg Value.bool (by unfold Dc.right; rw [h1, h2]; rfl)⟩
   | true =>
     repeat ((first | refine Br.y1 ?_ | refine Br.n1 ?_); conv => whnf)
     refine hp.load (off := 3) (v := .int .i64 sc) .d (by rfl) rfl rfl rfl ?_
     conv => whnf
     repeat ((first | refine Br.y1 ?_ | refine Br.n1 ?_); conv => whnf)
     cases h3 : decide (sc ≤ 9) with
     | false =>
       repeat ((first | refine Br.y1 ?_ | refine Br.n1 ?_); conv => whnf)
       refine Sm.ofW ?_
       conv => whnf
       exact ⟨hp.fr, congrArg Value.bool (by unfold Dc.right; rw [h1, h2, h3]; rfl)⟩
     | true =>
       repeat ((first | refine Br.y1 ?_ | refine Br.n1 ?_); conv => whnf)
       refine hp.load (off := 0) (v := .bool ng) .d (by rfl) rfl rfl rfl ?_
       conv => whnf
       cases ng with
       | false =>
         repeat ((first | refine Br.y1 ?_ | refine Br.n1 ?_); conv => whnf)
         refine Sm.ofW ?_
         conv => whnf
         exact ⟨hp.fr, congrArg Value.bool (by unfold Dc.right; rw [h1, h2, h3]; rfl)⟩
       | true =>
         repeat ((first | refine Br.y1 ?_ | refine Br.n1 ?_); conv => whnf)
         refine hp.loadA (off := 1) (l := C2 (n % w64) (n / w64)) .d rfl (by rfl) rfl rfl ?_
         conv => whnf
         repeat ((first | refine Br.y1 ?_ | refine Br.n1 ?_); conv => whnf)
         (refine hp.call (nought_spec hp.wf n) ?_; clear hp; rintro _ s rfl hp _; conv => whnf)
         repeat ((first | refine Br.y1 ?_ | refine Br.n1 ?_); conv => whnf)
         cases h4 : decide (n = 0) with
         | false =>
           repeat ((first | refine Br.y1 ?_ | refine Br.n1 ?_); conv => whnf)
           refine Sm.ofW ?_
           conv => whnf
           exact ⟨hp.fr, congrArg Value.bool (by unfold Dc.right; rw [h1, h2, h3, h4]; rfl)⟩
         | true =>
           repeat ((first | refine Br.y1 ?_ | refine Br.n1 ?_); conv => whnf)
           refine Sm.ofW ?_
           conv => whnf
           exact ⟨hp.fr, congrArg Value.bool (by unfold Dc.right; rw [h1, h2, h3, h4]; rfl)⟩
end

/- Decimals: made, Neg, Sign. No condition. -/
section
variable [Lk]
def Dc.zero : Dc := ⟨false, 0, 0⟩
def okD (d : Dc) : Value := .tuple #[d.val, .int .i64 0]
def errD (e : Int) : Value := .tuple #[Dc.zero.val, .int .i64 e]
theorem Dc_same (a b : Dc) : a.cells.length = b.cells.length := rfl
theorem csx {p : Prop} (h : p := by first | exact C2_same _ _ _ _ | exact C4_same _ _ _ _ _ _ _ _ | exact Dc_same _ _ | rfl) : p := h
end

/- Decimals: Neg, Sign, wide, Scaled. No condition. -/
section
variable [Lk]
end

/- Decimals: Scaled; what is nearer, what is farther. No condition. -/
section
variable [Lk]
theorem Dc.right_c {d : Dc} (h : d.right = true) : d.c < 10 ^ 30 ∧ 0 ≤ d.scale ∧ d.scale ≤ 9 := by
 unfold Dc.right at h
 simp only [Bool.and_eq_true, decide_eq_true_eq] at h
 exact ⟨h.1, h.2.1, h.2.2.1⟩
end

/- A long division, bit by bit, without a program. No condition. -/
section
variable [Lk]
theorem div_step {N b bit : Nat} (hb : 0 < b) (hbit : bit ≤ 1) : (2 * N + bit) / b = 2 * (N / b) + (if b ≤ 2 * (N % b) + bit then 1 else 0) ∧ (2 * N + bit) % b = if b ≤ 2 * (N % b) + bit then 2 * (N % b) + bit - b else 2 * (N % b) + bit := by
 have h1 := Nat.div_add_mod N b
 have h2 := Nat.mod_lt N hb
 have e : 2 * N + bit = (2 * (N % b) + bit) + b * (2 * (N / b)) := by
  have : b * (2 * (N / b)) = 2 * (b * (N / b)) := by rw [Nat.mul_left_comm]
  rw [this]
  generalize b * (N / b) = q at h1 ⊢
  omega
 rw [e, Nat.add_mul_div_left _ _ hb, Nat.add_mul_mod_self_left]
 have hx : 2 * (N % b) + bit < 2 * b := by omega
 clear e h1 h2
 generalize 2 * (N % b) + bit = x at *
 by_cases h : b ≤ x
 · rw [if_pos h, if_pos h]
   have : x / b = 1 := by
    rw [Nat.div_eq_sub_div hb h, Nat.div_eq_of_lt (by omega)]
   rw [this, Nat.mod_eq_sub_mod h, Nat.mod_eq_of_lt (by omega)]
   omega
 · rw [if_neg h, if_neg h, Nat.div_eq_of_lt (by omega), Nat.mod_eq_of_lt (by omega)]
   omega
def wd (Q i : Nat) : Nat := Q / 2 ^ (64 * i) % 2 ^ 64
def ws (Q : Nat) : List Nat := [wd Q 0, wd Q 1, wd Q 2, wd Q 3]
theorem wd_lt (Q i : Nat) : wd Q i < w64 := Nat.mod_lt _ (by decide)
theorem wd_or (x y i : Nat) : wd (x ||| y) i = wd x i ||| wd y i := by
 apply Nat.eq_of_testBit_eq
 intro n
 simp only [wd, Nat.testBit_mod_two_pow, Nat.testBit_div_two_pow, Nat.testBit_or]
 cases decide (n < 64) <;> simp
theorem wd_pow (j i : Nat) : wd (2 ^ j) i = if i = j / 64 then 2 ^ (j % 64) else 0 := by
 apply Nat.eq_of_testBit_eq
 intro n
 simp only [wd, Nat.testBit_mod_two_pow, Nat.testBit_div_two_pow, Nat.testBit_two_pow]
 by_cases hn : n < 64
 · by_cases h : i = j / 64
   · rw [if_pos h, Nat.testBit_two_pow]
     simp only [hn, decide_true, Bool.true_and]
     apply decide_eq_decide.2
     omega
   · rw [if_neg h, Nat.zero_testBit]
     simp only [hn, decide_true, Bool.true_and]
     apply decide_eq_false
     omega
 · have : decide (n < 64) = false := decide_eq_false hn
   rw [this, Bool.false_and]
   split
   · rw [Nat.testBit_two_pow]
     symm
     apply decide_eq_false
     omega
   · rw [Nat.zero_testBit]
theorem ws_bit (M j : Nat) (hj : j < 256) : ws (M * 2 ^ (j + 1) + 2 ^ j) = (ws (M * 2 ^ (j + 1))).set (j / 64) (wd (M * 2 ^ (j + 1)) (j / 64) ||| 2 ^ (j % 64)) := by
 have e : M * 2 ^ (j + 1) + 2 ^ j = (M * 2 ^ (j + 1)) ||| 2 ^ j := by
  have := or_shift (a := 2 ^ j) (b := M) (k := j + 1) (Nat.pow_lt_pow_right (by decide) (by omega))
  rw [Nat.or_comm, this, Nat.add_comm]
 rw [e]
 have hi : j / 64 < 4 := by omega
 unfold ws
 simp only [wd_or, wd_pow]
 generalize j / 64 = i at hi
 generalize M * 2 ^ (j + 1) = Q
 have hc : i = 0 ∨ i = 1 ∨ i = 2 ∨ i = 3 := by omega
 rcases hc with rfl | rfl | rfl | rfl <;> simp
theorem wd_bit (a j : Nat) : wd a (j / 64) / 2 ^ (j % 64) % 2 = a / 2 ^ j % 2 := by
 rw [← Nat.toNat_testBit, ← Nat.toNat_testBit]
 congr 1
 simp only [wd, Nat.testBit_mod_two_pow, Nat.testBit_div_two_pow]
 have h : j % 64 < 64 := Nat.mod_lt _ (by decide)
 simp only [h, decide_true, Bool.true_and]
 congr 1
 omega
theorem ws_get (Q i : Nat) (hi : i < 4) : ∃ h : i < (ws Q).length, (ws Q)[i] = wd Q i := by
 refine ⟨hi, ?_⟩
 have hc : i = 0 ∨ i = 1 ∨ i = 2 ∨ i = 3 := by omega
 rcases hc with rfl | rfl | rfl | rfl <;> rfl
theorem w4_ws {Q : Nat} (h : Q < w256) : (C4 (Q % w64) (Q / w64 % w64) (Q / w128 % w64) (Q / w192)) = natU (ws Q) := by
 have e0 : wd Q 0 = Q % w64 := by
  unfold wd; rw [show (2 : Nat) ^ (64 * 0) = 1 by decide, show (2 : Nat) ^ 64 = w64 by decide, Nat.div_one]
 have e1 : wd Q 1 = Q / w64 % w64 := by
  unfold wd; rw [show (2 : Nat) ^ (64 * 1) = w64 by decide]
 have e2 : wd Q 2 = Q / w128 % w64 := by
  unfold wd; rw [show (2 : Nat) ^ (64 * 2) = w128 by decide, show (2 : Nat) ^ 64 = w64 by decide]
 have e3 : wd Q 3 = Q / w192 := by
  unfold wd; rw [show (2 : Nat) ^ (64 * 3) = w192 by decide, show (2 : Nat) ^ 64 = w64 by decide]
  apply Nat.mod_eq_of_lt
  rw [Nat.div_lt_iff_lt_mul (by decide), show w64 * w192 = w256 by decide]
  exact h
 unfold ws natU C4
 simp only [List.map_cons, List.map_nil, e0, e1, e2, e3]
theorem shl_u64 {P : Program} {t : TypeId} {c : Bool} (x n : Nat) (hn : n < 64) : evBin P .shl t c (.int .u64 (x : Int)) (.int .i64 (n : Int)) = some (.int .u64 ((x * 2 ^ n % w64 : Nat) : Int)) := by
 show (match decide ((n : Int) < 0) with
  | true => none
  | false => some (Value.int .u64 (IntKind.u64.wrap ((x : Int) * 2 ^ (min (n : Int).toNat 64))))) = _
 rw [decide_eq_false (by omega)]
 simp only [Int.toNat_natCast, Nat.min_eq_left (show n ≤ 64 by omega)]
 rw [show ((x : Int) * 2 ^ n) = ((x * 2 ^ n : Nat) : Int) by push_cast; rfl, wrap_u64]
theorem shr_u64 {P : Program} {t : TypeId} {c : Bool} (x n : Nat) (hn : n < 64) : evBin P .shr t c (.int .u64 (x : Int)) (.int .i64 (n : Int)) = some (.int .u64 ((x / 2 ^ n : Nat) : Int)) := by
 show (match decide ((n : Int) < 0) with
  | true => none
  | false => some (Value.int .u64 ((x : Int).fdiv (2 ^ (min (n : Int).toNat 64))))) = _
 rw [decide_eq_false (by omega)]
 simp only [Int.toNat_natCast, Nat.min_eq_left (show n ≤ 64 by omega)]
 rw [show ((2 : Int) ^ n) = ((2 ^ n : Nat) : Int) by push_cast; rfl, Int.fdiv_eq_ediv_of_nonneg _ (Int.natCast_nonneg _), ← Int.natCast_ediv]
theorem shift_words {r bit : Nat} (hr : r < w128) (hb : bit ≤ 1) : ((2 * r + bit) % w128) / w64 = r / w64 * 2 % w64 + r % w64 / 9223372036854775808 ∧ (2 * r + bit) % w128 % w64 = r % w64 * 2 % w64 + bit ∧ (r / w64 / 9223372036854775808 = 0 ↔ 2 * r + bit < w128) ∧ r % w64 / 9223372036854775808 ≤ 1 := by
 have hs : (2 * r + bit) % w128 = if w128 ≤ 2 * r + bit then 2 * r + bit - w128 else 2 * r + bit := by
  split
  · rw [Nat.mod_eq_sub_mod (by assumption), Nat.mod_eq_of_lt (by simp only [w128] at *; omega)]
  · rw [Nat.mod_eq_of_lt (by simp only [w128] at *; omega)]
 rw [hs]
 simp only [w64, w128] at *
 split <;> omega
def qk (a b m : Nat) : Nat := a / 2 ^ m / b * 2 ^ m
def rk (a b m : Nat) : Nat := a / 2 ^ m % b
theorem qr_step {a b j : Nat} (hb : 0 < b) : (if b ≤ 2 * rk a b (j + 1) + a / 2 ^ j % 2 then qk a b j = qk a b (j + 1) + 2 ^ j ∧ rk a b j = 2 * rk a b (j + 1) + a / 2 ^ j % 2 - b else qk a b j = qk a b (j + 1) ∧ rk a b j = 2 * rk a b (j + 1) + a / 2 ^ j % 2) := by
 have hN : a / 2 ^ j = 2 * (a / 2 ^ (j + 1)) + a / 2 ^ j % 2 := by
  rw [Nat.pow_succ, ← Nat.div_div_eq_div_mul]; omega
 have hs := div_step (N := a / 2 ^ (j + 1)) (bit := a / 2 ^ j % 2) hb (by omega)
 rw [← hN] at hs
 unfold qk rk
 have e : 2 ^ (j + 1) = 2 * 2 ^ j := by rw [Nat.pow_succ, Nat.mul_comm]
 rw [hs.1, hs.2]
 split
 · rename_i h
   refine ⟨?_, rfl⟩
   rw [e, Nat.add_mul, Nat.one_mul, ← Nat.mul_assoc, Nat.mul_comm 2 (_ / b)]
 · rename_i h
   refine ⟨?_, rfl⟩
   rw [e, Nat.add_zero, ← Nat.mul_assoc, Nat.mul_comm 2 (_ / b)]
end

/- Numbers of two words, further: Div walked. No condition. -/
section
variable [Lk]
theorem quo_nat {P : Program} {t : TypeId} {cst : Bool} {n m : Nat} (hm : 0 < m) (hn : n < 9223372036854775808) : evBin P .quo t cst (.int .i64 (n : Int)) (.int .i64 (m : Int)) = some (.int .i64 ((n / m : Nat) : Int)) := by
 show (match decide ((m : Int) = 0) with
  | true => none
  | false => some (Value.int .i64 (IntKind.i64.wrap ((n : Int).tdiv m)))) = _
 rw [decide_eq_false (by omega)]
 have : (n : Int).tdiv m = ((n / m : Nat) : Int) := by rw [Int.tdiv_eq_ediv_of_nonneg (by omega)]; push_cast; rfl
 have h2 : n / m ≤ n := Nat.div_le_self _ _
 rw [this]
 generalize n / m = q at h2
 simp only
 rw [wi64 (by omega) (by omega)]
theorem rem_nat {P : Program} {t : TypeId} {cst : Bool} {n m : Nat} (hm : 0 < m) : evBin P .rem t cst (.int .i64 (n : Int)) (.int .i64 (m : Int)) = some (.int .i64 ((n % m : Nat) : Int)) := by
 show (match decide ((m : Int) = 0) with
  | true => none
  | false => some (Value.int .i64 ((n : Int).tmod m))) = _
 rw [decide_eq_false (by omega)]
 have : (n : Int).tmod m = ((n % m : Nat) : Int) := by rw [Int.tmod_eq_emod_of_nonneg (by omega)]; push_cast; rfl
 rw [this]
theorem or_low {x y : Nat} (hy : y ≤ 1) : IntKind.u64.wrap ((BitVec.ofInt IntKind.u64.bits ((x * 2 % 18446744073709551616 : Nat) : Int) ||| BitVec.ofInt IntKind.u64.bits (y : Int)).toNat : Int) = ((x * 2 % w64 + y : Nat) : Int) := by
 rw [or_u64 (Nat.mod_lt _ (by decide)) (by omega)]
 have e : x * 2 % 18446744073709551616 = x % 9223372036854775808 * 2 ^ 1 := by omega
 have := or_shift (a := y) (b := x % 9223372036854775808) (k := 1) (by omega)
 rw [Nat.or_comm, e, this, Nat.add_comm]
theorem sub_words {x b : Nat} (hx : x < w128) (hb : b < w128) : (x + w128 - b) % w128 % w64 = (x % w64 + w64 + w64 - b % w64 - 0) % w64 ∧ (x + w128 - b) % w128 / w64 = (x / w64 + w64 + w64 - b / w64 - (if x % w64 < b % w64 + 0 then 1 else 0)) % w64 := by
 simp only [w64, w128] at *
 split <;> omega
theorem qk_top {a b : Nat} (ha : a < w256) : qk a b 256 = 0 ∧ rk a b 256 = 0 % b := by
 have h : a / 2 ^ 256 = 0 := Nat.div_eq_of_lt (by rw [show (2 : Nat) ^ 256 = w256 by decide]; exact ha)
 unfold qk rk
 rw [h, Nat.zero_div, Nat.zero_mul]
 exact ⟨rfl, rfl⟩
theorem ws_zero : natU (ws 0) = C4 0 0 0 0 := by
 have h : ∀ i, wd 0 i = 0 := fun i => by unfold wd; rw [Nat.zero_div]
 unfold ws natU C4
 simp only [List.map_cons, List.map_nil, h]
theorem lDiv_spec {z : St} (wf : WF z) {a b : Nat} (ha : a < w256) (hb : b < w128) (hb0 : 0 < b) :
  Cw Tryz.prog 106 [W4 a, W2 b] z fun r s' => K0 z s' ∧ r = .tuple #[W4 (a / b), W2 (a % b), .bool true] := by
 have hp : Hp (fun _ => False) z [] [] z := Hp.start _ wf _ (by simp)
 refine Cw.enterS Tryz.func106 rfl rfl ?_
 refine Sm.seqW ?_
 conv => whnf
 refine hp.var (cs := C4 (a % w64) (a / w64 % w64) (a / w128 % w64) (a / w192)) (e := 1) rfl rfl ?_
 clear hp
 intro p2 s hp _
 rw [w4_ws ha] at hp
 conv => whnf
 refine hp.var (cs := C2 (b % w64) (b / w64)) (e := 1) rfl rfl ?_
 clear hp
 intro p3 s hp _
 conv => whnf
 refine hp.alloc (cs := C4 0 0 0 0) (e := 1) rfl rfl rfl rfl rfl ?_
 clear hp
 intro p4 s hp _
 conv => whnf
 refine hp.alloc (cs := C2 0 0) (e := 1) rfl rfl rfl rfl rfl ?_
 clear hp
 intro p5 s hp _
 conv => whnf
 refine Sm.live [2, 3, 4, 5] ?_
 conv => whnf
 refine Sm.seq ?_
 refine Sm.seqW ?_
 conv => whnf
 refine hp.loadA (l := C2 (b % w64) (b / w64)) .d rfl (by rfl) rfl rfl ?_
 conv => whnf
 refine Om.of _ (z_eq b _) ?_
 conv => whnf
 rw [decide_eq_false (show ¬ b = 0 by omega)]
 refine Sm.ofW ?_
 conv => whnf
 repeat ((first | refine Br.y1 ?_ | refine Br.n1 ?_); conv => whnf)
 refine Sm.live [2, 3, 4, 5] ?_
 conv => whnf
 obtain ⟨t1, t2⟩ := qk_top (b := b) ha
 rw [Nat.zero_mod] at t2
 have hp : Hp (fun _ => False) z [] [blkA p5 p5 (C2 (rk a b 256 % w64) (rk a b 256 / w64)) 1, blkA p4 p4 (natU (ws (qk a b 256))) 1, blkA p3 p3 (C2 (b % w64) (b / w64)) 1, blkA p2 p2 (natU (ws a)) 1] s := by
  rw [t2, t1, ws_zero]; exact hp
 clear t1 t2
 refine Sm.seq (Sm.mono (Q := fun e L' s' => e = .normal ∧ Hp (fun _ => False) z [] [blkA p5 p5 (C2 (rk a b 0 % w64) (rk a b 0 / w64)) 1, blkA p4 p4 (natU (ws (qk a b 0))) 1] s' ∧ Sub [(4, .pointer (some ⟨p4, 0, none⟩)), (5, .pointer (some ⟨p5, 0, none⟩))] L') ?_ ?_)
 · refine Sm.seqW ?_
   conv => whnf
   refine Sm.block ?_
   refine Sm.loop ?_
   refine Lp.ofS (α := Nat) (fun m => [(2, .pointer (some ⟨p2, 0, none⟩)), (3, .pointer (some ⟨p3, 0, none⟩)), (4, .pointer (some ⟨p4, 0, none⟩)), (5, .pointer (some ⟨p5, 0, none⟩)), (7, .int .i64 ((m : Int) - 1))])
    (fun m s' => m ≤ 256 ∧ Hp (fun _ => False) z [] [blkA p5 p5 (C2 (rk a b m % w64) (rk a b m / w64)) 1, blkA p4 p4 (natU (ws (qk a b m))) 1, blkA p3 p3 (C2 (b % w64) (b / w64)) 1, blkA p2 p2 (natU (ws a)) 1] s') (fun m => m) ?_ 256 (subK_ok (by refine ⟨rfl, rfl, rfl, rfl, rfl, trivial⟩)) ⟨Nat.le_refl _, hp⟩
   clear hp
   rintro m s ⟨hm, hp⟩
   cases m with
   | zero =>
     refine Sm.seq ?_
     refine Sm.seqW ?_
     conv => whnf
     refine Sm.ofW ?_
     conv => whnf
     refine Br.no rfl ?_
     conv => whnf
     exact ⟨rfl, hp.pik (by repeat (first | exact Pik.nil | exact Pik.refl _ | exact Rm.here | apply Rm.there | apply Pik.cons | apply Pik.skip)), subK_ok ⟨rfl, rfl, trivial⟩⟩
   | succ j =>
     refine Sm.weak [(2, .pointer (some ⟨p2, 0, none⟩)), (3, .pointer (some ⟨p3, 0, none⟩)), (4, .pointer (some ⟨p4, 0, none⟩)), (5, .pointer (some ⟨p5, 0, none⟩)), (7, .int .i64 (j : Int))] (subK_ok ⟨rfl, rfl, rfl, rfl, congrArg (fun x => some (Value.int .i64 x)) (show ((j + 1 : Nat) : Int) - 1 = (j : Int) by push_cast; omega), trivial⟩) ?_
     have hj : j < 256 := by omega
     have hi4 : j / 64 < 4 := by omega
     have hrlt : rk a b (j + 1) < b := Nat.mod_lt _ hb0
     have hstep := qr_step (a := a) (b := b) (j := j) hb0
     have hqdef : qk a b (j + 1) = a / 2 ^ (j + 1) / b * 2 ^ (j + 1) := rfl
     have hbit1 : a / 2 ^ j % 2 ≤ 1 := by omega
     have hwb := wd_bit a j
     generalize hbit : a / 2 ^ j % 2 = bit at hstep hbit1 hwb
     generalize hr : rk a b (j + 1) = r at *
     obtain ⟨w1, w2, w3, w4⟩ := shift_words (r := r) (bit := bit) (by omega) hbit1
     refine Sm.seq ?_
     refine Sm.seqW ?_
     conv => whnf
     refine Sm.ofW ?_
     conv => whnf
     refine Br.yes (decide_eq_true (by omega)) ?_
     conv => whnf
     refine Sm.seq (Sm.block ?_)
     refine Sm.seqW ?_
     conv => whnf
     (refine Om.of _ rfl ?_; conv => whnf)
     (refine hp.load .d (by rfl) rfl rfl rfl ?_; conv => whnf)
     refine Om.of _ (congrArg (fun x => some (Value.int .u64 x)) (fdiv63 _)) ?_
     conv => whnf
     refine Sm.live [2, 3, 4, 5, 7, 8] ?_
     conv => whnf
     refine Sm.seqW ?_
     conv => whnf
     (refine Om.of _ rfl ?_; conv => whnf)
     (refine hp.load .d (by rfl) rfl rfl rfl ?_; conv => whnf)
     refine Om.of (.int .u64 (IntKind.u64.wrap (((r / w64 : Nat) : Int) * 2 ^ 1))) rfl ?_
     conv => whnf
     (refine Om.of _ rfl ?_; conv => whnf)
     (refine hp.load .d (by rfl) rfl rfl rfl ?_; conv => whnf)
     refine Om.of _ (congrArg (fun x => some (Value.int .u64 x)) (fdiv63 _)) ?_
     conv => whnf
     have e7 : IntKind.u64.wrap ((BitVec.ofInt IntKind.u64.bits (IntKind.u64.wrap (((r / w64 : Nat) : Int) * 2 ^ 1)) ||| BitVec.ofInt IntKind.u64.bits ((r % w64 / 9223372036854775808 : Nat) : Int)).toNat : Int) = (((2 * r + bit) % w128 / w64 : Nat) : Int) := by
      rw [w1, show (((r / w64 : Nat) : Int) * 2 ^ 1) = ((r / w64 * 2 : Nat) : Int) by rw [show ((2 : Int) ^ 1) = ((2 : Nat) : Int) from rfl, ← Int.natCast_mul], wrap_u64]
      exact or_low (by omega)
     rw [e7]
     (refine Om.of _ rfl ?_; conv => whnf)
     refine hp.store (off := 1) .d (by show 1 < 2; decide) rfl rfl rfl rfl ?_
     clear hp
     intro s hp _
     replace hp := hp.as (a' := blkA p5 p5 (C2 (r % w64) ((2 * r + bit) % w128 / w64)) 1) .d (fun h => h) (fun _ h => h)
     conv => whnf
     refine Sm.live [2, 3, 4, 5, 7, 8] ?_
     conv => whnf
     refine Sm.seqW ?_
     conv => whnf
     refine ⟨[0, 1, 3, 0, 8, 24, 56, 0, 128, 504, 1016, 2047, 4095, 8191], by decide +kernel, by decide +kernel, ?_⟩
     conv => whnf
     (refine Om.of _ rfl ?_; conv => whnf)
     (refine hp.load .d (by rfl) rfl rfl rfl ?_; conv => whnf)
     refine Om.of (.int .u64 (IntKind.u64.wrap (((r % w64 : Nat) : Int) * 2 ^ 1))) rfl ?_
     conv => whnf
     refine Om.of _ (quo_nat (n := j) (m := 64) (by decide) (by omega)) ?_
     conv => whnf
     refine Om.of _ (ixA Tryz.underlying102 rfl rfl .i64 hi4) ?_
     conv => whnf
     obtain ⟨gl, gv⟩ := ws_get a (j / 64) hi4
     refine hp.load (v := .int .u64 ((wd a (j / 64) : Nat) : Int)) .d (by rw [Nat.zero_add, natU_get _ _ gl, gv]) rfl rfl rfl ?_
     conv => whnf
     refine Om.of _ (rem_nat (n := j) (m := 64) (by decide)) ?_
     conv => whnf
     refine Om.of _ (shr_u64 _ (j % 64) (by omega)) ?_
     conv => whnf
     have e8 : IntKind.u64.wrap ((BitVec.ofInt IntKind.u64.bits (IntKind.u64.wrap (((r % w64 : Nat) : Int) * 2 ^ 1)) ||| BitVec.ofInt IntKind.u64.bits (IntKind.u64.wrap ((BitVec.ofInt IntKind.u64.bits ((wd a (j / 64) / 2 ^ (j % 64) : Nat) : Int) &&& BitVec.ofInt IntKind.u64.bits 1).toNat : Int))).toNat : Int) = (((2 * r + bit) % w128 % w64 : Nat) : Int) := by
      have hx : wd a (j / 64) / 2 ^ (j % 64) < w64 := Nat.lt_of_le_of_lt (Nat.div_le_self _ _) (wd_lt _ _)
      have ha1 := and_u64 (b := 1) hx (by decide)
      rw [Nat.and_one_is_mod, hwb] at ha1
      rw [show (BitVec.ofInt IntKind.u64.bits 1) = BitVec.ofInt IntKind.u64.bits ((1 : Nat) : Int) from rfl, ha1, w2, show (((r % w64 : Nat) : Int) * 2 ^ 1) = ((r % w64 * 2 : Nat) : Int) by rw [show ((2 : Int) ^ 1) = ((2 : Nat) : Int) from rfl, ← Int.natCast_mul], wrap_u64]
      exact or_low (by omega)
     rw [e8]
     (refine Om.of _ rfl ?_; conv => whnf)
     refine hp.rst.store (off := 0) .d (by show 0 < 2; decide) rfl rfl rfl rfl ?_
     intro s1 h1 l1
     conv => whnf
     refine hp.dkW h1 l1 ?_
     clear hp h1 l1
     intro s hp
     replace hp := hp.as (a' := blkA p5 p5 (C2 ((2 * r + bit) % w128 % w64) ((2 * r + bit) % w128 / w64)) 1) .d (fun h => h) (fun _ h => h)
     conv => whnf
     have hr2lt : (2 * r + bit) % w128 < w128 := Nat.mod_lt _ (by decide)
     have hmod : 2 * r + bit < w128 → (2 * r + bit) % w128 = 2 * r + bit := fun h => Nat.mod_eq_of_lt h
     have hdiff : b ≤ 2 * r + bit → ((2 * r + bit) % w128 + w128 - b) % w128 = 2 * r + bit - b := by
      intro h
      by_cases h2 : 2 * r + bit < w128
      · rw [hmod h2]; simp only [w128] at *; omega
      · have : (2 * r + bit) % w128 = 2 * r + bit - w128 := by
         rw [Nat.mod_eq_sub_mod (by omega), Nat.mod_eq_of_lt (by simp only [w128] at *; omega)]
        rw [this]; simp only [w128] at *; omega
     have hcmp : ∀ x y : Nat, decide (cmpI x y ≥ 0) = decide (y ≤ x) := by
      intro x y
      apply decide_eq_decide.2
      unfold cmpI
      by_cases c1 : x < y
      · rw [if_pos c1]; omega
      · rw [if_neg c1]; split <;> omega
     refine Sm.live [2, 3, 4, 5, 7, 8] ?_
     conv => whnf
     refine Sm.seqC (fun e L' s' => e = .normal ∧ Hp (fun _ => False) z [] [blkA p5 p5 (C2 ((2 * r + bit) % w128 % w64) ((2 * r + bit) % w128 / w64)) 1, blkA p4 p4 (natU (ws (qk a b (j + 1)))) 1, blkA p3 p3 (C2 (b % w64) (b / w64)) 1, blkA p2 p2 (natU (ws a)) 1] s' ∧ Sub [(2, .pointer (some ⟨p2, 0, none⟩)), (3, .pointer (some ⟨p3, 0, none⟩)), (4, .pointer (some ⟨p4, 0, none⟩)), (5, .pointer (some ⟨p5, 0, none⟩)), (7, .int .i64 (j : Int)), (53, .bool (decide (b ≤ 2 * r + bit)))] L') ?_ ?_
     · conv => whnf
       by_cases htop : r / w64 / 9223372036854775808 = 0
       · have d : decide (((r / w64 / 9223372036854775808 : Nat) : Int) > 0) = false := decide_eq_false (by rw [htop]; decide)
         have hlt := w3.1 htop
         refine Br.no d ?_
         conv => whnf
         refine hp.loadA (l := C2 ((2 * r + bit) % w128 % w64) ((2 * r + bit) % w128 / w64)) .d rfl (by rfl) rfl rfl ?_
         conv => whnf
         refine Br.no d ?_
         conv => whnf
         refine hp.loadA (l := C2 (b % w64) (b / w64)) .d rfl (by rfl) rfl rfl ?_
         conv => whnf
         refine Br.no d ?_
         conv => whnf
         (refine hp.call (lCmp_spec hp.wf (a := (2 * r + bit) % w128) (b := b) hr2lt hb) ?_; clear hp; rintro _ s rfl hp _; conv => whnf)
         refine Br.no d ?_
         conv => whnf
         refine Br.no d ?_
         conv => whnf
         exact ⟨rfl, hp, subK_ok ⟨rfl, rfl, rfl, rfl, rfl, congrArg (fun x => some (Value.bool x)) ((hcmp _ _).trans (by rw [hmod hlt])), trivial⟩⟩
       · have d : decide (((r / w64 / 9223372036854775808 : Nat) : Int) > 0) = true := decide_eq_true (Int.natCast_pos.2 (Nat.pos_of_ne_zero htop))
         have hge : ¬ 2 * r + bit < w128 := fun h => htop (w3.2 h)
         refine Br.yes d ?_
         conv => whnf
         refine Br.yes d ?_
         conv => whnf
         refine Br.yes d ?_
         conv => whnf
         refine Br.yes d ?_
         conv => whnf
         refine Br.yes d ?_
         conv => whnf
         exact ⟨rfl, hp, subK_ok ⟨rfl, rfl, rfl, rfl, rfl, congrArg (fun x => some (Value.bool x)) (decide_eq_true (by omega)).symm, trivial⟩⟩
     clear hp
     rintro e L' s ⟨rfl, hp, hs⟩
     refine Sm.weak _ hs ?_
     clear hs
     have ej : IntKind.i64.wrap ((j : Int) - 1) = (j : Int) - 1 := wi64 (by omega) (by omega)
     refine Sm.cond (v := decide (b ≤ 2 * r + bit)) rfl (fun hle => ?_) (fun hle => ?_)
     · have hle := of_decide_eq_true hle
       rw [if_pos hle] at hstep
       have hdf := hdiff hle
       obtain ⟨x1, x2⟩ := w2_lt hr2lt
       obtain ⟨b1, b2⟩ := w2_lt hb
       obtain ⟨y1, y2⟩ := sub_words hr2lt hb
       rw [hdf] at y1 y2
       generalize (2 * r + bit) % w128 % w64 = xl at *
       generalize (2 * r + bit) % w128 / w64 = xh at *
       have hbo : (if xl < b % w64 + 0 then 1 else 0) ≤ 1 := by split <;> omega
       refine Sm.seqW ?_
       conv => whnf
       (refine Om.of _ rfl ?_; conv => whnf)
       (refine hp.load .d (by rfl) rfl rfl rfl ?_; conv => whnf)
       (refine Om.of _ rfl ?_; conv => whnf)
       (refine hp.load .d (by rfl) rfl rfl rfl ?_; conv => whnf)
       refine (lless_spec _ (c := 0) x1 b1 (by decide)).mono ?_
       rintro _ _ ⟨rfl, rfl⟩
       rw [← y1]
       generalize hbr : (if xl < b % w64 + 0 then 1 else 0) = bo at hbo y2
       conv => whnf
       refine Sm.live [2, 3, 4, 5, 7, 9, 10] ?_
       conv => whnf
       refine Sm.seqW ?_
       conv => whnf
       (refine Om.of _ rfl ?_; conv => whnf)
       (refine hp.load .d (by rfl) rfl rfl rfl ?_; conv => whnf)
       (refine Om.of _ rfl ?_; conv => whnf)
       (refine hp.load .d (by rfl) rfl rfl rfl ?_; conv => whnf)
       refine (lless_spec _ x2 b2 hbo).mono ?_
       rintro _ _ ⟨rfl, rfl⟩
       rw [← y2]
       conv => whnf
       refine Sm.live [2, 3, 4, 5, 7, 9, 11] ?_
       conv => whnf
       refine Sm.seqW ?_
       conv => whnf
       refine hp.storeW (vs := C2 ((2 * r + bit - b) % w64) ((2 * r + bit - b) / w64)) rfl .d (C2_same ..) rfl rfl rfl ?_
       clear hp
       intro s hp _
       conv => whnf
       refine Sm.live [2, 3, 4, 5, 7] ?_
       conv => whnf
       refine Sm.ofW ?_
       conv => whnf
       refine ⟨[0, 1, 3, 7, 0, 16, 48, 127, 255, 511], by decide +kernel, by decide +kernel, ?_⟩
       conv => whnf
       refine Om.of _ (quo_nat (n := j) (m := 64) (by decide) (by omega)) ?_
       conv => whnf
       refine Om.of _ (ixA Tryz.underlying102 rfl rfl .i64 hi4) ?_
       conv => whnf
       obtain ⟨gl, gv⟩ := ws_get (qk a b (j + 1)) (j / 64) hi4
       refine hp.load (v := .int .u64 ((wd (qk a b (j + 1)) (j / 64) : Nat) : Int)) .d (by rw [Nat.zero_add, natU_get _ _ gl, gv]) rfl rfl rfl ?_
       conv => whnf
       refine Om.of _ (rem_nat (n := j) (m := 64) (by decide)) ?_
       conv => whnf
       refine Om.of _ (shl_u64 1 (j % 64) (by omega)) ?_
       conv => whnf
       have hpw : 1 * 2 ^ (j % 64) % w64 = 2 ^ (j % 64) := by
        rw [Nat.one_mul]
        exact Nat.mod_eq_of_lt (Nat.lt_of_lt_of_le (Nat.pow_lt_pow_right (by decide) (show j % 64 < 64 by omega)) (by decide))
       have hpl : 2 ^ (j % 64) < w64 := by rw [← hpw]; exact Nat.mod_lt _ (by decide)
       rw [hpw, or_u64 (wd_lt _ _) hpl]
       refine Om.of _ (ixA Tryz.underlying102 rfl rfl .i64 hi4) ?_
       conv => whnf
       refine hp.rst.store .d (by rw [Nat.zero_add]; exact hi4) rfl rfl rfl rfl ?_
       intro s1 h1 l1
       rw [Nat.zero_add, natU_set, hqdef, ← ws_bit _ j hj, ← hqdef, ← hstep.1] at h1
       conv => whnf
       refine hp.dkW h1 l1 ?_
       clear hp h1 l1
       intro s hp
       conv => whnf
       refine Sm.ofW ?_
       conv => whnf
       rw [← hstep.2] at hp
       exact ⟨j, Nat.lt_succ_self j, subK_ok (by refine ⟨rfl, rfl, rfl, rfl, congrArg (fun x => some (Value.int .i64 x)) ej, trivial⟩), by omega, hp.pik (by repeat (first | exact Pik.nil | exact Pik.refl _ | exact Rm.here | apply Rm.there | apply Pik.cons | apply Pik.skip))⟩
     · have hle := of_decide_eq_false hle
       rw [if_neg hle] at hstep
       have hlt : 2 * r + bit < w128 := by omega
       rw [hmod hlt, ← hstep.2, ← hstep.1] at hp
       refine Sm.ofW ?_
       conv => whnf
       refine Sm.ofW ?_
       conv => whnf
       exact ⟨j, Nat.lt_succ_self j, subK_ok (by refine ⟨rfl, rfl, rfl, rfl, congrArg (fun x => some (Value.int .i64 x)) ej, trivial⟩), by omega, hp⟩
 clear hp
 rintro e L' s ⟨rfl, hp, hs⟩
 refine Sm.weak _ hs ?_
 clear hs
 have hq0 : qk a b 0 = a / b := by unfold qk; rw [Nat.pow_zero, Nat.div_one, Nat.mul_one]
 have hr0 : rk a b 0 = a % b := by unfold rk; rw [Nat.pow_zero, Nat.div_one]
 have hqa : a / b < w256 := Nat.lt_of_le_of_lt (Nat.div_le_self _ _) ha
 rw [hq0, hr0, ← w4_ws hqa] at hp
 generalize a / b = Q at *
 generalize a % b = R at *
 refine Sm.seqW ?_
 conv => whnf
 refine ⟨[0, 0, 1, 7, 15], by decide +kernel, by decide +kernel, ?_⟩
 conv => whnf
 refine hp.loadA (l := C4 (Q % w64) (Q / w64 % w64) (Q / w128 % w64) (Q / w192)) .d rfl (by rfl) rfl rfl ?_
 conv => whnf
 refine hp.loadA (l := C2 (R % w64) (R / w64)) .d rfl (by rfl) rfl rfl ?_
 conv => whnf
 have hp0 := hp
 refine hp.rst.storeW (vs := C4 (Q % w64) (Q / w64 % w64) (Q / w128 % w64) (Q / w192)) rfl .d (C4_same ..) rfl rfl rfl ?_
 intro s1 h1 l1
 conv => whnf
 refine hp.dkW h1 l1 ?_
 clear hp h1 l1
 intro s hp
 conv => whnf
 refine ⟨hp0.sa hp .d .d, ?_⟩
 clear hp0
 conv => whnf
 refine hp.rst.storeW (vs := C2 (R % w64) (R / w64)) rfl .d (C2_same ..) rfl rfl rfl ?_
 intro s1 h1 l1
 conv => whnf
 refine hp.dkW h1 l1 ?_
 clear hp h1 l1
 intro s hp
 conv => whnf
 refine Sm.ofW ?_
 conv => whnf
 refine hp.loadA (l := C4 (Q % w64) (Q / w64 % w64) (Q / w128 % w64) (Q / w192)) .d rfl (by rfl) rfl rfl ?_
 conv => whnf
 refine hp.loadA (l := C2 (R % w64) (R / w64)) .d rfl (by rfl) rfl rfl ?_
 conv => whnf
 exact ⟨hp.fr, rfl⟩
end

/- Rounding: farther, made. No condition. -/
section
variable [Lk]
end

/- Rounding: rounded. No condition. -/
section
variable [Lk]
theorem lAdd_ok {z : St} (wf : WF z) {a b : Nat} (ha : a < w128) (hb : b < w128) (h : a + b < w128) :
  Cw Tryz.prog 116 [W2 a, W2 b] z fun r s' => K0 z s' ∧ r = .tuple #[W2 (a + b), .bool true] :=
 (lAdd_spec wf ha hb).mono fun r s' ⟨h1, h2⟩ => ⟨h1, h2.trans (if_pos h)⟩
end

/- Rounding: are the arguments right? No condition. -/
section
variable [Lk]
end

/- Rounding: Quant. No condition. -/
section
variable [Lk]
end

/- Rounding: Div. No condition. -/
section
variable [Lk]
end

/- Rounding: Times. No condition. -/
section
variable [Lk]
end

/- Rounding: dec.Of; decimals that are alike; chapter 3's example. No condition. -/
section
variable [Lk]
theorem dc_e (a b : Dc) : evEq Tryz.prog 10000 29 a.val b.val = some (a.neg == b.neg && ((((a.c % w64 : Nat) : Int) == ((b.c % w64 : Nat) : Int) && ((a.c / w64 : Nat) : Int) == ((b.c / w64 : Nat) : Int)) && a.scale == b.scale)) := by
 obtain ⟨an, ac, ae⟩ := a
 obtain ⟨bn, bc, be⟩ := b
 have key : ∀ q1 q2 r : Bool, (((ac % w64 : Nat) : Int) == ((bc % w64 : Nat) : Int)) = q1 → (((ac / w64 : Nat) : Int) == ((bc / w64 : Nat) : Int)) = q2 → (ae == be) = r → evEq Tryz.prog 10000 29 (Dc.val ⟨an, ac, ae⟩) (Dc.val ⟨bn, bc, be⟩) = some (an == bn && ((q1 && q2) && r)) := by
  intro q1 q2 r h1 h2 h3
  cases an <;> cases bn
  all_goals
   conv => lhs; whnf
   first
   | rfl
   | (show (match (match (some (((ac % w64 : Nat) : Int) == ((bc % w64 : Nat) : Int)) : Option Bool) with | some true => (match (some (((ac / w64 : Nat) : Int) == ((bc / w64 : Nat) : Int)) : Option Bool) with | some true => some true | some false => some false | none => none) | some false => some false | none => none) with | some true => (match (some (ae == be) : Option Bool) with | some true => some true | some false => some false | none => none) | some false => some false | none => none) = _
      rw [h1, h2, h3]
      cases q1 <;> cases q2 <;> cases r <;> rfl)
 exact key _ _ _ rfl rfl rfl
end

/- Rounding: decimals that are alike; chapter 3's example. No condition. -/
section
variable [Lk]
def eqD (a b : Dc) : Bool := a.neg == b.neg && (decide (a.c = b.c) && a.scale == b.scale)
theorem words_eq (a b : Nat) : (((a % w64 : Nat) : Int) == ((b % w64 : Nat) : Int) && ((a / w64 : Nat) : Int) == ((b / w64 : Nat) : Int)) = decide (a = b) := by
 by_cases h : a = b
 · subst h; simp
 · rw [decide_eq_false h, Bool.and_eq_false_iff]
   by_cases h1 : a % w64 = b % w64
   · right
     rw [beq_eq_false_iff_ne]
     intro h2
     apply h
     have h2 : a / w64 = b / w64 := Int.ofNat.inj h2
     simp only [w64] at *; omega
   · left
     rw [beq_eq_false_iff_ne]
     intro h2
     exact h1 (Int.ofNat.inj h2)
theorem dc_eq (a b : Dc) (c : Bool) : evBin Tryz.prog .eql 29 c a.val b.val = some (.bool (eqD a b)) := by
 have hg : Tryz.prog.eqGuardType Tryz.prog.depth 29 = false := by decide +kernel
 show (match !(Tryz.prog.eqGuardType Tryz.prog.depth 29) with | false => none | true => (match evEq Tryz.prog 10000 29 a.val b.val with | some b => some (Value.bool b) | none => none)) = _
 rw [hg, dc_e, words_eq]; rfl
end

/- Lists of digits: Word, Within. No condition. -/
section
variable [Lk]
def dg (n : Nat) : List Nat := if n = 0 then [] else n % 10 :: dg (n / 10)
termination_by n
decreasing_by omega
def Vd : List Nat → Nat
 | [] => 0
 | d :: l => d + 10 * Vd l
theorem Vd_dg (n : Nat) : Vd (dg n) = n := by
 induction n using Nat.strongRecOn with
 | _ n ih =>
   rw [dg]
   by_cases h : n = 0
   · rw [if_pos h]; simp [Vd, h]
   · rw [if_neg h]
     simp only [Vd]
     rw [ih (n / 10) (by omega)]
     omega
theorem dg_lt (n : Nat) : ∀ d ∈ dg n, d < 10 := by
 induction n using Nat.strongRecOn with
 | _ n ih =>
   rw [dg]
   by_cases h : n = 0
   · rw [if_pos h]; simp
   · rw [if_neg h]
     intro d hd
     rcases List.mem_cons.1 hd with rfl | hd
     · exact Nat.mod_lt _ (by decide)
     · exact ih (n / 10) (by omega) d hd
theorem dg_len (k : Nat) : ∀ n, n < 10 ^ k → (dg n).length ≤ k := by
 induction k with
 | zero => intro n h; simp at h; subst h; rw [dg]; simp
 | succ k ih =>
   intro n h
   rw [dg]
   by_cases h0 : n = 0
   · rw [if_pos h0]; simp
   · rw [if_neg h0]
     have := ih (n / 10) (by rw [Nat.pow_succ] at h; omega)
     simp; omega
def natI (l : List Nat) : List Value := l.map fun (n : Nat) => .int .i64 (n : Int)
end

/- Lists of digits: Word walked. No condition. -/
section
variable [Lk]
theorem Hp.nilA {X : Nat → Prop} {s0 s : St} {R F : List At} (h : Hp X s0 R F s) (e : Nat) : Hp X s0 R (onA none (.slice none 0 0) e 0 [] :: F) s :=
 h.push (Kp.refl h.wf) (a := onA none (.slice none 0 0) e 0 []) (⟨.inl ⟨rfl, rfl, rfl, rfl⟩⟩ : OwnO s none _ e 0 []) (fun j hj => by cases hj)
end

/- Lists of digits: digit, short. No condition. -/
section
variable [Lk]
abbrev Sd (s : St) (κ : Option Nat) (v : Value) (l : List Nat) : Prop := Sl s κ v 1 l.length (natI l)
theorem Vd_drop {l : List Nat} {i : Nat} (h : i < l.length) : Vd (l.drop i) = l[i] + 10 * Vd (l.drop (i + 1)) := by
 rw [List.drop_eq_getElem_cons h]; rfl
end

/- Lists of digits: trim. No condition. -/
section
variable [Lk]
end

/- Lists of digits: CmpNat. No condition. -/
section
variable [Lk]
structure Dl (l : List Nat) : Prop where
 lt : ∀ d ∈ l, d < 10
 top : ∀ h : 0 < l.length, l[l.length - 1] ≠ 0
theorem Vd_lt : ∀ (l : List Nat), (∀ d ∈ l, d < 10) → Vd l < 10 ^ l.length
 | [], _ => by simp [Vd]
 | d :: l, h => by
   have h1 := Vd_lt l fun x hx => h x (by simp [hx])
   have h2 := h d (by simp)
   simp only [Vd, List.length_cons, Nat.pow_succ]; omega
theorem Vd_split : ∀ (l : List Nat) (j : Nat), Vd l = Vd (l.take j) + 10 ^ j * Vd (l.drop j)
 | [], j => by simp [Vd]
 | d :: l, 0 => by simp [Vd]
 | d :: l, j + 1 => by
   have := Vd_split l j
   simp only [List.take_succ_cons, List.drop_succ_cons, Vd, Nat.pow_succ]
   rw [this, Nat.mul_add, ← Nat.mul_assoc, Nat.mul_comm (10 ^ j) 10, Nat.add_assoc]
theorem Dl.ge {l : List Nat} (h : Dl l) (hl : 0 < l.length) : 10 ^ (l.length - 1) ≤ Vd l := by
 have h1 := Vd_split l (l.length - 1)
 have h2 := Vd_drop (l := l) (i := l.length - 1) (by omega)
 have h3 := h.top hl
 have h4 : 1 ≤ Vd (l.drop (l.length - 1)) := by omega
 have h5 : 10 ^ (l.length - 1) * 1 ≤ 10 ^ (l.length - 1) * Vd (l.drop (l.length - 1)) := Nat.mul_le_mul_left _ h4
 omega
end

/- Lists of digits: sums, without a program. No condition. -/
section
variable [Lk]
end

/- Lists of digits: AddNat walked. No condition. -/
section
variable [Lk]
structure Nd (z s : St) (v : Value) (n : Nat) (m : Nat) : Prop where
 ex : ∃ κ l, (∀ j, κ = some j → z.next ≤ j) ∧ Sd s κ v l ∧ Dl l ∧ Vd l = n ∧ l.length ≤ m
end

/- Lists of digits: the radix. No condition. -/
section
variable [Lk]
theorem Nd.base {z y s : St} {v : Value} {n m : Nat} (h : Nd y s v n m) (k : z.next ≤ y.next) : Nd z s v n m := by
 obtain ⟨κ, l, h1, h2⟩ := h.ex
 exact ⟨κ, l, fun j hj => Nat.le_trans k (h1 j hj), h2⟩
end

/- Lists of digits: differences, without a program. No condition. -/
section
variable [Lk]
end

/- Lists of digits: SubNat walked. No condition. -/
section
variable [Lk]
end

/- Lists of digits: long division, without a program. No condition. -/
section
variable [Lk]
theorem Dl.nil : Dl [] := ⟨by simp, by simp⟩
end

/- Lists of digits: DivNat walked. No condition. -/
section
variable [Lk]
end

/- Lists of digits: Words2, Make, Of. No condition. -/
section
variable [Lk]
theorem Dl.small {l : List Nat} (h : Dl l) (k : Nat) : Vd l < 10 ^ k ↔ l.length ≤ k := by
 constructor
 · intro hv
   rcases Nat.lt_or_ge k l.length with g | g
   · have h1 := h.ge (by omega)
     have h2 : 10 ^ k ≤ 10 ^ (l.length - 1) := Nat.pow_le_pow_right (by decide) (by omega)
     omega
   · exact g
 · intro hl
   have h1 := Vd_lt l h.lt
   have h2 : 10 ^ l.length ≤ 10 ^ k := Nat.pow_le_pow_right (by decide) hl
   omega
theorem dg_dl (n : Nat) : Dl (dg n) := by
 refine ⟨dg_lt n, ?_⟩
 induction n using Nat.strongRecOn with
 | _ n ih =>
   intro h
   by_cases h0 : n = 0
   · subst h0
     have : dg 0 = [] := by rw [dg]; simp
     rw [this] at h
     exact absurd h (by decide)
   · have e : dg n = n % 10 :: dg (n / 10) := by
      conv => lhs; rw [dg]
      rw [if_neg h0]
     by_cases h1 : n / 10 = 0
     · have e1 : dg (n / 10) = [] := by rw [h1, dg]; simp
       simp only [e, e1]
       simp
       omega
     · have := ih (n / 10) (by omega)
       have hp : 0 < (dg (n / 10)).length := by rw [dg, if_neg h1]; simp
       have h2 := this hp
       simp only [e]
       have e3 : (n % 10 :: dg (n / 10)).length - 1 = ((dg (n / 10)).length - 1) + 1 := by simp; omega
       simp only [e3, List.getElem_cons_succ]
       exact h2
end

/- QuantSigns without a program. No condition. -/
section
variable [Lk]
end

/- Decimals that are alike. No condition. -/
section
variable [Lk]
theorem eqD_self (a : Dc) : eqD a a = true := by unfold eqD; simp
end

/- Lists of digits: products, without a program. No condition. -/
section
variable [Lk]
end

/- Lists of digits: MulNat walked. No condition. -/
section
variable [Lk]
end

/- Lists of digits: TenNat, Nat2, RightDec, goodMode. No condition. -/
section
variable [Lk]
end

/- Lists of digits: Rounded. No condition. -/
section
variable [Lk]
end

/- What the document's rounding and the program's have in common, without a program. No condition. -/
section
variable [Lk]
theorem p10 (k : Nat) : 0 < 10 ^ k := Nat.pow_pos (by decide)
end

/- Raw numbers as decimals (pyxhand.Dec). No condition. -/
section
variable [Lk]
end

/- Four words: dec.cmp, dec.halves. No condition. -/
section
variable [Lk]
theorem wd_get (Q i : Nat) (hi : i < 4) : (natU (ws Q))[i]? = some (.int .u64 ((wd Q i : Nat) : Int)) := by
 obtain ⟨h1, h2⟩ := ws_get Q i hi
 rw [natU_get _ _ h1, h2]
end

/- Four words: dec.plus, dec.less. No condition. -/
section
variable [Lk]
end

/- Sums, products and the order of decimals, without a program. No condition. -/
section
variable [Lk]
def up (d : Dc) (S : Int) : Int := if d.neg = true then -((d.c * 10 ^ (S - d.scale).toNat : Nat) : Int) else ((d.c * 10 ^ (S - d.scale).toNat : Nat) : Int)
end

/- dec.Cmp, Add, Sub, Mul walked. No condition. -/
section
variable [Lk]
end

/- Decimals as whole numbers at a scale, without a program. No condition. -/
section
variable [Lk]
end

/- Rounded numbers with their signs. No condition. -/
section
variable [Lk]
end

/- QuantUnits walked. No condition. -/
section
variable [Lk]
end

/- Texts: HasPrefix, CutPrefix, Cut at one byte. No condition. -/
section
variable [Lk]
abbrev sv (l : List UInt8) : Value := .string ⟨l.toArray⟩
theorem str_index {P : Program} {t : TypeId} (hu : P.underlying t = some .string) {l : List UInt8} {i : Nat} (h : i < l.length) (k : IntKind) : evIndex P t (sv l) (.int k (i : Int)) = some (.int .u8 ((l[i].toNat : Nat) : Int)) := by
 show (match P.underlying t, sv l, Value.int k (.ofNat i) with
  | some (.array n e), .agg cs, .int _ (.ofNat i) => match Nat.blt i n, P.info? e with
    | true, some j => partL P e cs.toList (i * j.size)
    | _, _ => none
  | some .string, .string s, .int _ (.ofNat i) => match (bs s)[i]? with
    | some b => some (.int .u8 b.toNat)
    | none => none
  | _, _, _ => none) = _
 rw [hu]
 simp only [bs_mk, List.getElem?_eq_getElem h]
theorem str_slice {P : Program} {t : TypeId} (hu : P.underlying t = some .string) {l : List UInt8} (k1 k2 : IntKind) (lo hi : Option Nat) (h1 : lo.getD 0 ≤ hi.getD l.length) (h2 : hi.getD l.length ≤ l.length) :
  evSliceStr P t (sv l) (bndV k1 lo) (bndV k2 hi) = some (sv ((l.drop (lo.getD 0)).take (hi.getD l.length - lo.getD 0))) := by
 have hb : bnds l.length l.length (bndV k1 lo) (bndV k2 hi) none = some (lo.getD 0, hi.getD l.length, l.length) := by
  unfold bnds
  cases lo <;> cases hi <;> simp only [bndV, Option.getD_none, Option.getD_some] at h1 h2 ⊢
  · rw [bnd_nat h2]
  · rw [bnd_nat h1]
  · rw [bnd_nat h2]; simp only; rw [bnd_nat h1]
 unfold evSliceStr
 rw [hu]
 simp only [bs_mk, hb]
theorem str_take {P : Program} {t : TypeId} (hu : P.underlying t = some .string) {l : List UInt8} (k : IntKind) {j : Nat} (h : j ≤ l.length) : evSliceStr P t (sv l) none (some (.int k (j : Int))) = some (sv (l.take j)) := by
 have := str_slice hu (l := l) k k none (some j) (by simp) (by simpa using h)
 simpa [bndV] using this
theorem str_drop {P : Program} {t : TypeId} (hu : P.underlying t = some .string) {l : List UInt8} (k : IntKind) {j : Nat} (h : j ≤ l.length) : evSliceStr P t (sv l) (some (.int k (j : Int))) none = some (sv (l.drop j)) := by
 have := str_slice hu (l := l) k k (some j) none (by simpa using h) (by simp)
 simp only [bndV, Option.getD_some, Option.getD_none] at this
 rw [this, List.take_of_length_le (by simp)]
theorem sv_eq {P : Program} {t : TypeId} {c : Bool} (a b : List UInt8) : evBin P .eql t c (sv a) (sv b) = some (.bool (a == b)) := str_eq _ _
theorem sv_ne {P : Program} {t : TypeId} {c : Bool} (a b : List UInt8) : evBin P .neq t c (sv a) (sv b) = some (.bool (!(a == b))) := str_ne _ _
def hasP (l p : List UInt8) : Bool := decide (p.length ≤ l.length) && (l.take p.length == p)
theorem hasPrefix_spec (s : St) (l p : List UInt8) : Cw Tryz.prog 170 [sv l, sv p] s fun r s' => s' = s ∧ r = .bool (hasP l p) := by
 refine Cw.enterS Tryz.func170 rfl rfl ?_
 refine Sm.seqW ?_
 conv => whnf
 refine Sm.seqW ?_
 conv => whnf
 unfold hasP
 by_cases h : p.length ≤ l.length
 · have hd : decide ((l.length : Int) ≥ (p.length : Int)) = true := decide_eq_true (by omega)
   repeat (refine Br.yes hd ?_; conv => whnf)
   refine Om.of _ (str_take Tryz.underlying9 .i64 h) ?_
   conv => whnf
   repeat (refine Br.yes hd ?_; conv => whnf)
   refine Om.of _ (sv_eq (l.take p.length) p) ?_
   conv => whnf
   repeat (refine Br.yes hd ?_; conv => whnf)
   refine Sm.ofW ?_
   conv => whnf
   rw [decide_eq_true h]
   exact ⟨rfl, rfl⟩
 · have hd : decide ((l.length : Int) ≥ (p.length : Int)) = false := decide_eq_false (by omega)
   repeat (refine Br.no hd ?_; conv => whnf)
   refine Sm.ofW ?_
   conv => whnf
   rw [decide_eq_false h]
   exact ⟨rfl, rfl⟩
def cutP (l p : List UInt8) : Value := if hasP l p = true then .tuple #[sv (l.drop p.length), .bool true] else .tuple #[sv l, .bool false]
theorem lcutPrefix_spec (s : St) (l p : List UInt8) : Cw Tryz.prog 147 [sv l, sv p] s fun r s' => s' = s ∧ r = cutP l p := by
 refine Cw.enterS Tryz.func147 rfl rfl ?_
 refine Sm.seqW ?_
 conv => whnf
 refine Sm.seq ?_
 refine Sm.seqW ?_
 conv => whnf
 refine (hasPrefix_spec _ l p).mono ?_
 rintro _ s1 ⟨h1, rfl⟩
 obtain rfl := h1.symm
 conv => whnf
 refine Sm.ofW ?_
 conv => whnf
 unfold cutP
 cases h : hasP l p with
 | false =>
   repeat ((first | refine Br.y1 ?_ | refine Br.n1 ?_); conv => whnf)
   exact ⟨rfl, rfl⟩
 | true =>
   have hl : p.length ≤ l.length := by
    unfold hasP at h
    simp only [Bool.and_eq_true, decide_eq_true_eq] at h
    exact h.1
   repeat ((first | refine Br.y1 ?_ | refine Br.n1 ?_); conv => whnf)
   refine Sm.seqW ?_
   conv => whnf
   refine Om.of _ (str_drop Tryz.underlying9 .i64 hl) ?_
   conv => whnf
   refine Sm.ofW ?_
   conv => whnf
   exact ⟨rfl, rfl⟩
theorem cutPrefix_spec (s : St) (l p : List UInt8) : Cw Tryz.prog 129 [sv l, sv p] s fun r s' => s' = s ∧ r = cutP l p := by
 refine Cw.enterS Tryz.func129 rfl rfl ?_
 refine Sm.seqW ?_
 conv => whnf
 refine Sm.seqW ?_
 conv => whnf
 refine (lcutPrefix_spec _ l p).mono ?_
 rintro r s1 ⟨h1, hr⟩
 obtain rfl := h1.symm
 unfold cutP at hr ⊢
 cases h : hasP l p with
 | false =>
   rw [h] at hr
   subst hr
   conv => whnf
   refine Sm.ofW ?_
   conv => whnf
   exact ⟨rfl, rfl⟩
 | true =>
   rw [h] at hr
   subst hr
   conv => whnf
   refine Sm.ofW ?_
   conv => whnf
   exact ⟨rfl, rfl⟩
end

/- Texts: IndexByte, Index and Cut at one byte. No condition. -/
section
variable [Lk]
theorem idxL_some {c : Nat} : ∀ {l : List UInt8} {i j : Nat}, idxL c l i = some j → ∃ k, j = i + k ∧ ∃ h : k < l.length, l[k].toNat = c ∧ ∀ m, (hm : m < k) → (l[m]'(by omega)).toNat ≠ c
 | [], i, j, h => by cases h
 | x :: xs, i, j, h => by
   unfold idxL at h
   split at h
   · rename_i hb
     injection h with h
     exact ⟨0, by omega, by simp, Nat.eq_of_beq_eq_true hb, fun m hm => by omega⟩
   · rename_i hb
     obtain ⟨k, h1, h2, h3, h4⟩ := idxL_some h
     refine ⟨k + 1, by omega, by simp; omega, by simpa using h3, fun m hm => ?_⟩
     cases m with
     | zero => intro e; rw [show ((x :: xs)[0]'(by simp)) = x from rfl] at e; rw [e, Nat.beq_refl] at hb; cases hb
     | succ m => simpa using h4 m (by omega)
def ixI (o : Option Nat) : Int := match o with
 | some i => (i : Int)
 | none => -1
theorem ibs_spec (s : St) (l : List UInt8) (c : UInt8) : Cw Tryz.prog 182 [sv l, .int .u8 ((c.toNat : Nat) : Int)] s fun r s' => s' = s ∧ r = .int .i64 (ixI (idxL c.toNat l 0)) := by
 refine ⟨⟨_, s, ⟨rfl, rfl⟩, .inr (.inl ⟨rfl, _, Tryz.func182, rfl, ?_⟩)⟩⟩
 have hc : Nat.blt c.toNat 256 = true := blt_of c.toNat_lt
 have : evExt "internal/bytealg.IndexByteString" [sv l, .int .u8 ((c.toNat : Nat) : Int)] = some (.int .i64 (ixI (idxL c.toNat l 0))) := by
  unfold evExt
  rw [show ("internal/bytealg.IndexByteString" == "internal/bytealg.IndexByteString") = true from rfl]
  show (match Nat.blt c.toNat 256 with
   | true => match idxL c.toNat (bs ⟨l.toArray⟩) 0 with
     | some i => some (Value.int .i64 (.ofNat i))
     | none => some (Value.int .i64 (.negSucc 0))
   | false => none) = _
  rw [hc, bs_mk]
  cases idxL c.toNat l 0 <;> rfl
 exact this
theorem indexByte_spec (s : St) (l : List UInt8) (c : UInt8) : Cw Tryz.prog 156 [sv l, .int .u8 ((c.toNat : Nat) : Int)] s fun r s' => s' = s ∧ r = .int .i64 (ixI (idxL c.toNat l 0)) := by
 refine Cw.enterS Tryz.func156 rfl rfl ?_
 refine Sm.seqW ?_
 conv => whnf
 refine Sm.seqW ?_
 conv => whnf
 refine (ibs_spec _ l c).mono ?_
 rintro _ s1 ⟨h1, rfl⟩
 obtain rfl := h1.symm
 conv => whnf
 refine Sm.ofW ?_
 conv => whnf
 exact ⟨rfl, rfl⟩
theorem index1_spec (s : St) (l : List UInt8) (c : UInt8) : Cw Tryz.prog 140 [sv l, sv [c]] s fun r s' => s' = s ∧ r = .int .i64 (ixI (idxL c.toNat l 0)) := by
 refine Cw.enterS Tryz.func140 rfl rfl ?_
 refine Sm.seqW ?_
 conv => whnf
 refine Sm.seqW ?_
 conv => whnf
 refine Sm.seq ?_
 refine Sm.block ?_
 refine Sm.seqW ?_
 conv => whnf
 repeat ((first | refine Br.y1 ?_ | refine Br.n1 ?_); conv => whnf)
 refine Om.of _ (sv_eq [c] l) ?_
 conv => whnf
 repeat ((first | refine Br.y1 ?_ | refine Br.n1 ?_); conv => whnf)
 refine Sm.ofW ?_
 conv => whnf
 by_cases he : l = [c]
 · subst he
   have hq : (([c] : List UInt8) == [c]) = true := beq_self_eq_true _
   rw [hq]
   repeat ((first | refine Br.y1 ?_ | refine Br.n1 ?_); conv => whnf)
   have hi : ixI (idxL c.toNat [c] 0) = 0 := by
    unfold idxL
    rw [Nat.beq_refl]; rfl
   rw [hi]
   exact ⟨rfl, rfl⟩
 have hq : (([c] : List UInt8) == l) = false := beq_eq_false_iff_ne.2 fun h => he h.symm
 rw [hq]
 repeat ((first | refine Br.y1 ?_ | refine Br.n1 ?_); conv => whnf)
 refine Om.of _ (str_index Tryz.underlying9 (l := [c]) (i := 0) (by simp) .i64) ?_
 conv => whnf
 refine (indexByte_spec _ l c).mono ?_
 rintro _ s1 ⟨h1, rfl⟩
 obtain rfl := h1.symm
 conv => whnf
 exact ⟨rfl, rfl⟩
end

/- Texts: Cut at one byte; a set of figures; Trim. No condition. -/
section
variable [Lk]
def cutF (l : List UInt8) (c : UInt8) : Value := match idxL c.toNat l 0 with
 | some i => .tuple #[sv (l.take i), sv (l.drop (i + 1)), .bool true]
 | none => .tuple #[sv l, sv [], .bool false]
theorem lcut_spec (s : St) (l : List UInt8) (hl : l.length < 4611686018427387904) (c : UInt8) : Cw Tryz.prog 118 [sv l, sv [c]] s fun r s' => s' = s ∧ r = cutF l c := by
 refine Cw.enterS Tryz.func118 rfl rfl ?_
 refine Sm.seqW ?_
 conv => whnf
 refine Sm.seq ?_
 refine Sm.seqW ?_
 conv => whnf
 refine (index1_spec _ l c).mono ?_
 rintro _ s1 ⟨h1, rfl⟩
 obtain rfl := h1.symm
 conv => whnf
 refine Sm.seqW ?_
 conv => whnf
 refine Sm.ofW ?_
 conv => whnf
 unfold cutF
 cases hi : idxL c.toNat l 0 with
 | none =>
   repeat ((first | refine Br.y1 ?_ | refine Br.n1 ?_); conv => whnf)
   refine Sm.seqW ?_
   conv => whnf
   refine Sm.ofW ?_
   conv => whnf
   exact ⟨rfl, rfl⟩
 | some i =>
   obtain ⟨k, h1, h2, h3, h4⟩ := idxL_some hi
   have hk : i < l.length := by omega
   have hd : decide (ixI (some i) ≥ 0) = true := decide_eq_true (by show (i : Int) ≥ 0; omega)
   refine Br.yes (hd) ?_
   conv => whnf
   refine ⟨[0, 0, 3, 0, 0, 0, 32, 112, 248, 7, 1023, 2047], by decide +kernel, by decide +kernel, ?_⟩
   conv => whnf
   have e1 : IntKind.i64.wrap (ixI (some i) + (([c] : List UInt8).length : Int)) = ((i + 1 : Nat) : Int) := by
    show IntKind.i64.wrap ((i : Int) + 1) = _
    rw [wi64 (by omega) (by omega)]; push_cast; rfl
   refine Om.of _ (str_take Tryz.underlying9 (l := l) (j := i) .i64 (by omega)) ?_
   conv => whnf
   have e2 : IntKind.i64.wrap (ixI (some i) + ((bs ⟨#[c]⟩).length : Int)) = ((i + 1 : Nat) : Int) := e1
   rw [e2]
   refine Om.of _ (str_drop Tryz.underlying9 (l := l) (j := i + 1) .i64 (by omega)) ?_
   conv => whnf
   exact ⟨rfl, rfl⟩
theorem cut_spec (s : St) (l : List UInt8) (hl : l.length < 4611686018427387904) (c : UInt8) : Cw Tryz.prog 74 [sv l, sv [c]] s fun r s' => s' = s ∧ r = cutF l c := by
 refine Cw.enterS Tryz.func74 rfl rfl ?_
 refine Sm.seqW ?_
 conv => whnf
 refine Sm.seqW ?_
 conv => whnf
 refine (lcut_spec _ l hl c).mono ?_
 rintro r s1 ⟨h1, hr⟩
 obtain rfl := h1.symm
 unfold cutF at hr ⊢
 cases hi : idxL c.toNat l 0 with
 | none =>
   rw [hi] at hr
   subst hr
   conv => whnf
   refine Sm.ofW ?_
   conv => whnf
   exact ⟨rfl, rfl⟩
 | some i =>
   rw [hi] at hr
   subst hr
   conv => whnf
   refine Sm.ofW ?_
   conv => whnf
   exact ⟨rfl, rfl⟩
/-! ### the figures' set -/
def isD (b : UInt8) : Bool := decide (48 ≤ b.toNat ∧ b.toNat ≤ 57)
def natB (l : List Bool) : List Value := l.map Value.bool
def figB (i : Nat) : List Bool := (List.range 256).map fun k => decide (48 ≤ k ∧ k < 48 + i)
abbrev figs : List UInt8 := [48, 49, 50, 51, 52, 53, 54, 55, 56, 57]
theorem figB_len (i : Nat) : (figB i).length = 256 := by simp [figB]
theorem natB_len (l : List Bool) : (natB l).length = l.length := by simp [natB]
theorem natB_set (l : List Bool) (k : Nat) (b : Bool) : (natB l).set k (.bool b) = natB (l.set k b) := by simp [natB, List.map_set]
theorem figB_step : ∀ i, i < 10 → (figB i).set (48 + i) true = figB (i + 1) := by decide +kernel
theorem figs_at : ∀ i, (h : i < 10) → (figs[i]'h).toNat = 48 + i := by decide +kernel
theorem figB_get {k : Nat} (h : k < 256) : (natB (figB 10))[k]? = some (.bool (decide (48 ≤ k ∧ k ≤ 57))) := by
 unfold natB figB
 rw [List.map_map, List.getElem?_map, List.getElem?_range h]
 show some (Value.bool (decide (48 ≤ k ∧ k < 48 + 10))) = _
 have : decide (48 ≤ k ∧ k < 48 + 10) = decide (48 ≤ k ∧ k ≤ 57) := decide_eq_decide.2 (by omega)
 rw [this]
theorem asciiSet_spec {z : St} (wf : WF z) : Cw Tryz.prog 162 [sv figs] z fun r s' => K0 z s' ∧ r = .tuple #[.agg (natB (figB 10)).toArray, .bool true] := by
 have hp : Hp (fun _ => False) z [] [] z := Hp.start _ wf _ (by simp)
 refine Cw.enterS Tryz.func162 rfl rfl ?_
 refine Sm.seqW ?_
 conv => whnf
 refine hp.alloc (cs := natB (figB 0)) (e := 1) rfl rfl rfl (by kernel_rfl) rfl ?_
 clear hp
 intro p2 s hp _
 conv => whnf
 refine Sm.live [0, 2] ?_
 conv => whnf
 refine Sm.seq ?_
 refine Sm.seqW ?_
 conv => whnf
 refine Sm.block ?_
 refine Sm.loop ?_
 refine Lp.ofS (α := Nat) (fun i => [(0, sv figs), (2, .pointer (some ⟨p2, 0, none⟩)), (4, .int .i64 (i : Int))])
  (fun i s' => i ≤ 10 ∧ Hp (fun _ => False) z [] [blkA p2 p2 (natB (figB i)) 1] s') (fun i => 10 - i) ?_ 0 (subK_ok (by refine ⟨rfl, rfl, rfl, trivial⟩)) ⟨by decide, hp⟩
 clear hp
 rintro i s ⟨hi, hp⟩
 refine Sm.seq ?_
 refine Sm.seqW ?_
 conv => whnf
 refine Sm.ofW ?_
 conv => whnf
 refine Br.mk (fun hc => ?_) (fun hc => ?_)
 · have hc : i < 10 := by have h : (i : Int) < 10 := of_decide_eq_true hc; omega
   conv => whnf
   refine Sm.seq ?_
   refine Sm.block ?_
   refine Sm.seqW ?_
   conv => whnf
   refine Om.of _ (str_index Tryz.underlying9 (l := figs) (i := i) hc .i64) ?_
   conv => whnf
   rw [figs_at i hc]
   refine Sm.live [0, 2, 4, 5] ?_
   conv => whnf
   refine Sm.seq ?_
   refine Sm.seqW ?_
   conv => whnf
   refine Sm.ofW ?_
   conv => whnf
   refine Br.no (decide_eq_false (by omega)) ?_
   conv => whnf
   refine Sm.ofW ?_
   conv => whnf
   have hix : evIndexAddr Tryz.prog 209 (.pointer (some ⟨p2, 0, none⟩)) (.int .u8 ((48 + i : Nat) : Int)) = some (.pointer (some ⟨p2, 0 + (48 + i), none⟩)) := ixA Tryz.underlying209 (by rfl) rfl .u8 (by omega)
   refine Om.of _ (hix) ?_
   conv => whnf
   refine hp.store .d (by rw [natB_len, figB_len]; omega) rfl rfl rfl rfl ?_
   clear hp
   intro s hp _
   rw [show 0 + (48 + i) = 48 + i by omega, natB_set, figB_step i hc] at hp
   conv => whnf
   refine Sm.ofW ?_
   conv => whnf
   have ei : IntKind.i64.wrap ((i : Int) + 1) = ((i + 1 : Nat) : Int) := by rw [wi64 (by omega) (by omega)]; push_cast; rfl
   exact ⟨i + 1, by (show 10 - (i + 1) < 10 - i); omega, subK_ok (by refine ⟨rfl, rfl, congrArg (fun x => some (Value.int .i64 x)) ei, trivial⟩), by omega, hp⟩
 · have hc : ¬ i < 10 := by have h : ¬ (i : Int) < 10 := of_decide_eq_false hc; omega
   obtain rfl : i = 10 := by omega
   conv => whnf
   refine Sm.seqW ?_
   conv => whnf
   refine hp.loadA (l := natB (figB 10)) .d rfl (sl_all (by rw [natB_len, figB_len]; rfl)) rfl rfl ?_
   conv => whnf
   refine hp.storeW (vs := natB (figB 10)) rfl .d rfl rfl (by rw [natB_len, figB_len]; rfl) (by kernel_rfl) ?_
   clear hp
   intro s hp _
   conv => whnf
   refine Sm.ofW ?_
   conv => whnf
   refine hp.loadA (l := natB (figB 10)) .d rfl (sl_all (by rw [natB_len, figB_len]; rfl)) rfl rfl ?_
   conv => whnf
   exact ⟨hp.fr, rfl⟩
theorem contains_spec {s : St} {k p e : Nat} (hb : Blk s k p (natB (figB 10)) e) (c : UInt8) : Cw Tryz.prog 163 [.pointer (some ⟨p, 0, none⟩), .int .u8 ((c.toNat : Nat) : Int)] s fun r s' => s' = s ∧ r = .bool (isD c) := by
 have hc := c.toNat_lt
 refine Cw.enterS Tryz.func163 rfl rfl ?_
 refine Sm.seqW ?_
 conv => whnf
 refine Sm.seqW ?_
 conv => whnf
 have hix : evIndexAddr Tryz.prog 209 (.pointer (some ⟨p, 0, none⟩)) (.int .u8 ((c.toNat : Nat) : Int)) = some (.pointer (some ⟨p, 0 + c.toNat, none⟩)) := ixA Tryz.underlying209 (by rfl) rfl .u8 hc
 refine Om.of _ (hix) ?_
 conv => whnf
 refine Om.of _ (load_cell (v := .bool (isD c)) Tryz.underlying4 rfl rfl hb.rd (by rw [Nat.zero_add]; exact figB_get hc)) ?_
 conv => whnf
 refine Sm.ofW ?_
 conv => whnf
 exact ⟨rfl, rfl⟩
end

/- Texts: Trim of figures; dec.run. No condition. -/
section
variable [Lk]
def dropR (l : List UInt8) : List UInt8 := (l.reverse.dropWhile isD).reverse
theorem dropR_snoc (l : List UInt8) {c : UInt8} (h : isD c = true) : dropR (l ++ [c]) = dropR l := by simp [dropR, h]
theorem dropR_keep (l : List UInt8) {c : UInt8} (h : isD c = false) : dropR (l ++ [c]) = l ++ [c] := by simp [dropR, h]
theorem dw_all : ∀ L : List UInt8, (∀ x ∈ L.dropWhile isD, isD x = true) → ∀ x ∈ L, isD x = true
 | [], _ => by simp
 | a :: L, h => by
   by_cases ha : isD a = true
   · rw [List.dropWhile_cons_of_pos ha] at h
     intro x hx
     rcases List.mem_cons.1 hx with rfl | hx
     · exact ha
     · exact dw_all L h x hx
   · rw [List.dropWhile_cons_of_neg ha] at h
     exact absurd (h a (by simp)) ha
theorem dw_nil : ∀ L : List UInt8, L.dropWhile isD = [] ↔ ∀ x ∈ L, isD x = true
 | [] => by simp
 | a :: L => by
   by_cases ha : isD a = true
   · rw [List.dropWhile_cons_of_pos ha, dw_nil L]
     simp [ha]
   · rw [List.dropWhile_cons_of_neg ha]
     simp [ha]
theorem trim_nil (l : List UInt8) : ((dropR l).dropWhile isD == []) = l.all isD := by
 rw [Bool.eq_iff_iff, beq_iff_eq, dw_nil, List.all_eq_true]
 unfold dropR
 constructor
 · intro h x hx
   exact dw_all l.reverse (fun y hy => h y (by simpa using hy)) x (by simpa using hx)
 · intro h x hx
   rw [List.mem_reverse] at hx
   exact h x (by simpa using (List.dropWhile_sublist isD).subset hx)
theorem trimLeft_spec {s : St} {k p e : Nat} (hb : Blk s k p (natB (figB 10)) e) (l : List UInt8) : Cw Tryz.prog 173 [sv l, .pointer (some ⟨p, 0, none⟩)] s fun r s' => s' = s ∧ r = sv (l.dropWhile isD) := by
 refine Cw.enterS Tryz.func173 rfl rfl ?_
 refine Sm.seqW ?_
 conv => whnf
 refine Sm.seq ?_
 refine Sm.block ?_
 refine Sm.loop ?_
 refine Lp.ofS (α := List UInt8) (fun m => [(0, sv m), (1, .pointer (some ⟨p, 0, none⟩))]) (fun m s' => s' = s ∧ l.dropWhile isD = m.dropWhile isD) (fun m => m.length) ?_ l (subK_ok (by refine ⟨rfl, rfl, trivial⟩)) ⟨rfl, rfl⟩
 rintro m s1 ⟨h1, hm⟩
 obtain rfl := h1.symm
 cases m with
 | nil =>
   refine Sm.seq ?_
   refine Sm.seqW ?_
   conv => whnf
   refine Sm.ofW ?_
   conv => whnf
   repeat ((first | refine Br.y1 ?_ | refine Br.n1 ?_); conv => whnf)
   refine Sm.seqW ?_
   conv => whnf
   refine Sm.ofW ?_
   conv => whnf
   exact ⟨rfl, by rw [hm]; rfl⟩
 | cons c m =>
   have hd : decide ((((c :: m) : List UInt8).length : Int) > 0) = true := decide_eq_true (by simp)
   refine Sm.seq ?_
   refine Sm.seqW ?_
   conv => whnf
   refine Sm.ofW ?_
   conv => whnf
   refine Br.yes (hd) ?_
   conv => whnf
   refine Sm.block ?_
   refine Sm.seq ?_
   refine Sm.seqW ?_
   conv => whnf
   refine Om.of _ (str_index Tryz.underlying9 (l := c :: m) (i := 0) (by simp) .i64) ?_
   conv => whnf
   refine (contains_spec hb c).mono ?_
   rintro _ s1 ⟨h1, rfl⟩
   obtain rfl := h1.symm
   conv => whnf
   refine Sm.ofW ?_
   conv => whnf
   cases hcd : isD c with
   | false =>
     repeat ((first | refine Br.y1 ?_ | refine Br.n1 ?_); conv => whnf)
     refine Sm.seqW ?_
     conv => whnf
     refine Sm.ofW ?_
     conv => whnf
     refine ⟨rfl, ?_⟩
     rw [hm, List.dropWhile_cons_of_neg (by rw [hcd]; decide)]
     rfl
   | true =>
     repeat ((first | refine Br.y1 ?_ | refine Br.n1 ?_); conv => whnf)
     refine Sm.ofW ?_
     conv => whnf
     refine Om.of _ (str_drop Tryz.underlying9 (l := c :: m) (j := 1) .i64 (by simp)) ?_
     conv => whnf
     exact ⟨m, by simp, subK_ok (by refine ⟨rfl, rfl, trivial⟩), rfl, by rw [hm, List.dropWhile_cons_of_pos hcd]⟩
theorem trimRight_spec {s : St} {k p e : Nat} (hb : Blk s k p (natB (figB 10)) e) (l : List UInt8) (hl : l.length < 4611686018427387904) : Cw Tryz.prog 174 [sv l, .pointer (some ⟨p, 0, none⟩)] s fun r s' => s' = s ∧ r = sv (dropR l) := by
 refine Cw.enterS Tryz.func174 rfl rfl ?_
 refine Sm.seqW ?_
 conv => whnf
 refine Sm.seq ?_
 refine Sm.block ?_
 refine Sm.loop ?_
 refine Lp.ofS (α := List UInt8) (fun m => [(0, sv m), (1, .pointer (some ⟨p, 0, none⟩))]) (fun m s' => s' = s ∧ m.length ≤ l.length ∧ dropR l = dropR m) (fun m => m.length) ?_ l (subK_ok (by refine ⟨rfl, rfl, trivial⟩)) ⟨rfl, Nat.le_refl _, rfl⟩
 rintro m s1 ⟨h1, hml, hm⟩
 obtain rfl := h1.symm
 by_cases h0 : m = []
 · subst h0
   refine Sm.seq ?_
   refine Sm.seqW ?_
   conv => whnf
   refine Sm.ofW ?_
   conv => whnf
   repeat ((first | refine Br.y1 ?_ | refine Br.n1 ?_); conv => whnf)
   refine Sm.seqW ?_
   conv => whnf
   refine Sm.ofW ?_
   conv => whnf
   exact ⟨rfl, by rw [hm]; rfl⟩
 · obtain ⟨m, c, rfl⟩ : ∃ m' c, m = m' ++ [c] := ⟨m.dropLast, m.getLast h0, (List.dropLast_concat_getLast h0).symm⟩
   have hlen : (m ++ [c]).length = m.length + 1 := by simp
   have hd : decide (((m ++ [c]).length : Int) > 0) = true := decide_eq_true (by omega)
   have ek : IntKind.i64.wrap (((bs ⟨(m ++ [c]).toArray⟩).length : Int) - 1) = (m.length : Int) := by rw [bs_mk, hlen, wi64 (by omega) (by omega)]; omega
   have hg : (m ++ [c])[m.length]'(by omega) = c := by simp
   refine Sm.seq ?_
   refine Sm.seqW ?_
   conv => whnf
   refine Sm.ofW ?_
   conv => whnf
   refine Br.yes (hd) ?_
   conv => whnf
   refine Sm.block ?_
   refine Sm.seq ?_
   refine Sm.seqW ?_
   conv => whnf
   rw [ek]
   refine Om.of _ (str_index Tryz.underlying9 (l := m ++ [c]) (i := m.length) (by omega) .i64) ?_
   conv => whnf
   rw [hg]
   refine (contains_spec hb c).mono ?_
   rintro _ s1 ⟨h1, rfl⟩
   obtain rfl := h1.symm
   conv => whnf
   refine Sm.ofW ?_
   conv => whnf
   cases hcd : isD c with
   | false =>
     repeat ((first | refine Br.y1 ?_ | refine Br.n1 ?_); conv => whnf)
     refine Sm.seqW ?_
     conv => whnf
     refine Sm.ofW ?_
     conv => whnf
     refine ⟨rfl, ?_⟩
     rw [hm, dropR_keep m hcd]
     rfl
   | true =>
     repeat ((first | refine Br.y1 ?_ | refine Br.n1 ?_); conv => whnf)
     refine Sm.ofW ?_
     conv => whnf
     rw [ek]
     refine Om.of _ (str_take Tryz.underlying9 (l := m ++ [c]) (j := m.length) .i64 (by omega)) ?_
     conv => whnf
     have ht : (m ++ [c]).take m.length = m := by simp
     rw [ht]
     conv => whnf
     exact ⟨m, by (show m.length < (m ++ [c]).length); omega, subK_ok (by refine ⟨rfl, rfl, trivial⟩), rfl, by omega, by rw [hm, dropR_snoc m hcd]⟩
theorem trimF_spec {z : St} (wf : WF z) (l : List UInt8) (hl : l.length < 4611686018427387904) : Cw Tryz.prog 148 [sv l, sv figs] z fun r s' => K0 z s' ∧ r = sv ((dropR l).dropWhile isD) := by
 have hp : Hp (fun _ => False) z [] [] z := Hp.start _ wf _ (by simp)
 refine Cw.enterS Tryz.func148 rfl rfl ?_
 refine Sm.seqW ?_
 conv => whnf
 refine Sm.seq ?_
 refine Sm.seqW ?_
 conv => whnf
 refine Om.of _ (sv_eq l []) ?_
 conv => whnf
 by_cases h0 : l = []
 · subst h0
   have hq : (([] : List UInt8) == []) = true := rfl
   rw [hq]
   repeat ((first | refine Br.y1 ?_ | refine Br.n1 ?_); conv => whnf)
   refine Sm.ofW ?_
   conv => whnf
   repeat ((first | refine Br.y1 ?_ | refine Br.n1 ?_); conv => whnf)
   exact ⟨hp.fr, rfl⟩
 have hq : (l == []) = false := beq_eq_false_iff_ne.2 h0
 rw [hq]
 repeat ((first | refine Br.y1 ?_ | refine Br.n1 ?_); conv => whnf)
 refine Om.of _ (sv_eq figs []) ?_
 conv => whnf
 repeat ((first | refine Br.y1 ?_ | refine Br.n1 ?_); conv => whnf)
 refine Sm.ofW ?_
 conv => whnf
 repeat ((first | refine Br.y1 ?_ | refine Br.n1 ?_); conv => whnf)
 refine Sm.seq ?_
 refine Sm.seqW ?_
 conv => whnf
 repeat ((first | refine Br.y1 ?_ | refine Br.n1 ?_); conv => whnf)
 refine Sm.ofW ?_
 conv => whnf
 repeat ((first | refine Br.y1 ?_ | refine Br.n1 ?_); conv => whnf)
 refine Sm.seq ?_
 refine Sm.seqW ?_
 conv => whnf
 refine hp.call (asciiSet_spec hp.wf) ?_
 clear hp
 rintro _ s rfl hp _
 conv => whnf
 refine hp.alloc (cs := natB (figB 0)) (e := 1) rfl rfl rfl (by kernel_rfl) rfl ?_
 clear hp
 intro p5 s hp _
 conv => whnf
 refine hp.storeW (C := natB (figB 0)) (vs := natB (figB 10)) rfl .d (by rw [natB_len, natB_len, figB_len, figB_len]) rfl (by rw [natB_len, figB_len]; rfl) (by kernel_rfl) ?_
 clear hp
 intro s hp _
 conv => whnf
 refine Sm.seqW ?_
 conv => whnf
 refine Sm.ofW ?_
 conv => whnf
 repeat ((first | refine Br.y1 ?_ | refine Br.n1 ?_); conv => whnf)
 refine (trimRight_spec (hp.blk (k := p5) .d) l hl).mono ?_
 rintro _ s1 ⟨h1, rfl⟩
 obtain rfl := h1.symm
 conv => whnf
 refine (trimLeft_spec (hp.blk (k := p5) .d) (dropR l)).mono ?_
 rintro _ s1 ⟨h1, rfl⟩
 obtain rfl := h1.symm
 conv => whnf
 exact ⟨hp.fr, rfl⟩
def runF (l : List UInt8) (most : Nat) : Bool := !(l == []) && (decide (l.length ≤ most) && l.all isD)
theorem run_spec {z : St} (wf : WF z) (l : List UInt8) (hl : l.length < 4611686018427387904) (most : Nat) : Cw Tryz.prog 130 [sv l, .int .i64 (most : Int)] z fun r s' => K0 z s' ∧ r = .bool (runF l most) := by
 have hp : Hp (fun _ => False) z [] [] z := Hp.start _ wf _ (by simp)
 refine Cw.enterS Tryz.func130 rfl rfl ?_
 refine Sm.seqW ?_
 conv => whnf
 refine Sm.seqW ?_
 conv => whnf
 refine Om.of _ (sv_ne l []) ?_
 conv => whnf
 unfold runF
 by_cases h0 : l = []
 · subst h0
   have hq : (!(([] : List UInt8) == [])) = false := rfl
   rw [hq]
   repeat ((first | refine Br.y1 ?_ | refine Br.n1 ?_); conv => whnf)
   refine Sm.ofW ?_
   conv => whnf
   exact ⟨hp.fr, rfl⟩
 have hq : (!(l == [])) = true := by rw [beq_eq_false_iff_ne.2 h0]; rfl
 rw [hq]
 repeat ((first | refine Br.y1 ?_ | refine Br.n1 ?_); conv => whnf)
 by_cases hm : l.length ≤ most
 · have hd : decide ((l.length : Int) ≤ (most : Int)) = true := decide_eq_true (by omega)
   repeat (first | (refine Br.yes hd ?_; conv => whnf) | ((first | refine Br.y1 ?_ | refine Br.n1 ?_); conv => whnf))
   refine hp.call (trimF_spec hp.wf l hl) ?_
   clear hp
   rintro _ s rfl hp _
   conv => whnf
   repeat (first | (refine Br.yes hd ?_; conv => whnf) | ((first | refine Br.y1 ?_ | refine Br.n1 ?_); conv => whnf))
   refine Om.of _ (sv_eq ((dropR l).dropWhile isD) []) ?_
   conv => whnf
   repeat (first | (refine Br.yes hd ?_; conv => whnf) | ((first | refine Br.y1 ?_ | refine Br.n1 ?_); conv => whnf))
   refine Sm.ofW ?_
   conv => whnf
   refine ⟨hp.fr, congrArg Value.bool ?_⟩
   rw [trim_nil, decide_eq_true hm]
   rfl
 · have hd : decide ((l.length : Int) ≤ (most : Int)) = false := decide_eq_false (by omega)
   repeat (first | (refine Br.no hd ?_; conv => whnf) | ((first | refine Br.y1 ?_ | refine Br.n1 ?_); conv => whnf))
   refine Sm.ofW ?_
   conv => whnf
   refine ⟨hp.fr, congrArg Value.bool ?_⟩
   rw [decide_eq_false hm]
   rfl
end

/- dec.Read walked. No condition. -/
section
variable [Lk]
def valD (l : List UInt8) : Nat := l.foldl (fun a b => 10 * a + (b.toNat - 48)) 0
theorem valD_snoc (l : List UInt8) (c : UInt8) : valD (l ++ [c]) = 10 * valD l + (c.toNat - 48) := by simp [valD]
def bodyF (l : List UInt8) : List UInt8 := if hasP l [45] = true then l.drop 1 else l
def wholeF (b : List UInt8) : List UInt8 := match idxL 46 b 0 with
 | some i => b.take i
 | none => b
def restF (b : List UInt8) : List UInt8 := match idxL 46 b 0 with
 | some i => b.drop (i + 1)
 | none => []
def pointF (b : List UInt8) : Bool := (idxL 46 b 0).isSome
def readOk (b : List UInt8) : Bool := runF (wholeF b) 30 && (!pointF b || runF (restF b) 9)
def readF (l : List UInt8) : Value :=
 if readOk (bodyF l) = false then errD 2 else if 10 ^ 30 ≤ valD (wholeF (bodyF l) ++ restF (bodyF l)) then errD 3
 else if (hasP l [45] && decide (valD (wholeF (bodyF l) ++ restF (bodyF l)) = 0)) = true then errD 2 else okD ⟨hasP l [45], valD (wholeF (bodyF l) ++ restF (bodyF l)), (restF (bodyF l)).length⟩
theorem cutP_eq (l : List UInt8) : cutP l [45] = .tuple #[sv (bodyF l), .bool (hasP l [45])] := by
 unfold cutP bodyF
 cases hasP l [45] <;> rfl
theorem cutF_eq (b : List UInt8) : cutF b 46 = .tuple #[sv (wholeF b), sv (restF b), .bool (pointF b)] := by
 unfold cutF wholeF restF pointF
 show (match idxL 46 b 0 with
  | some i => Value.tuple #[sv (b.take i), sv (b.drop (i + 1)), .bool true]
  | none => .tuple #[sv b, sv [], .bool false]) = _
 cases idxL 46 b 0 <;> rfl
theorem body_len (l : List UInt8) : (bodyF l).length ≤ l.length := by
 unfold bodyF; split <;> simp
theorem whole_len (b : List UInt8) : (wholeF b).length ≤ b.length := by
 unfold wholeF; split <;> simp; omega
theorem rest_len (b : List UInt8) : (restF b).length ≤ b.length := by
 unfold restF; split <;> simp
theorem runF_ok {l : List UInt8} {m : Nat} (h : runF l m = true) : l ≠ [] ∧ l.length ≤ m ∧ ∀ x ∈ l, isD x = true := by
 unfold runF at h
 simp only [Bool.and_eq_true, Bool.not_eq_true', beq_eq_false_iff_ne, decide_eq_true_eq, List.all_eq_true] at h
 exact h
theorem readOk_ok {b : List UInt8} (h : readOk b = true) : (wholeF b ++ restF b).length ≤ 39 ∧ ∀ x ∈ wholeF b ++ restF b, isD x = true := by
 unfold readOk at h
 simp only [Bool.and_eq_true, Bool.or_eq_true, Bool.not_eq_true'] at h
 obtain ⟨_, h1, h2⟩ := runF_ok h.1
 rcases h.2 with g | g
 · have : restF b = [] := by
    unfold pointF at g
    unfold restF
    cases hi : idxL 46 b 0 with
    | none => rfl
    | some i => rw [hi] at g; cases g
   rw [this, List.append_nil]
   exact ⟨by omega, h2⟩
 · obtain ⟨_, g1, g2⟩ := runF_ok g
   refine ⟨by simp; omega, fun x hx => ?_⟩
   rcases List.mem_append.1 hx with k | k
   · exact h2 x k
   · exact g2 x k
theorem BD : SlT Tryz.prog 59 5 1 1 (.int .u8 0) := ⟨Tryz.underlying59, ⟨_, rfl, rfl, rfl, rfl⟩, rfl, rfl, by decide, by decide⟩
theorem isD_d {c : UInt8} (h : isD c = true) : 48 ≤ c.toNat ∧ c.toNat ≤ 57 := of_decide_eq_true h
structure RdOk (W : List UInt8) (i c : Nat) (over : Bool) : Prop where
 c30 : c < 10 ^ 30
 ov : over = decide (10 ^ 30 ≤ valD (W.take i))
 val : over = false → c = valD (W.take i)
theorem read_spec {z : St} (wf : WF z) (l : List UInt8) (hl : l.length < 4611686018427387904) : Cw Tryz.prog 102 [sv l] z fun r s' => K0 z s' ∧ r = readF l := by
 have hp : Hp (fun _ => False) z [] [] z := Hp.start _ wf _ (by simp)
 have hb := body_len l
 have hw := whole_len (bodyF l)
 have hr := rest_len (bodyF l)
 refine Cw.enterS Tryz.func102 rfl rfl ?_
 refine Sm.seqW ?_
 conv => whnf
 refine hp.alloc (cs := Dc.zero.cells) (e := 4) rfl rfl rfl rfl rfl ?_
 clear hp
 intro p2 s hp _
 conv => whnf
 refine Sm.live [0, 2] ?_
 conv => whnf
 refine Sm.seqW ?_
 conv => whnf
 refine (cutPrefix_spec _ l [45]).mono ?_
 rintro _ s1 ⟨h1, rfl⟩
 obtain rfl := h1.symm
 conv => whnf
 rw [cutP_eq]
 conv => whnf
 refine Sm.live [2, 4, 5] ?_
 conv => whnf
 refine Sm.seqW ?_
 conv => whnf
 refine (cut_spec _ (bodyF l) (by omega) 46).mono ?_
 rintro _ s1 ⟨h1, rfl⟩
 obtain rfl := h1.symm
 conv => whnf
 rw [cutF_eq]
 conv => whnf
 refine Sm.live [2, 5, 6, 7, 8] ?_
 conv => whnf
 have hread : readF l = if readOk (bodyF l) = false then errD 2 else if 10 ^ 30 ≤ valD (wholeF (bodyF l) ++ restF (bodyF l)) then errD 3
  else if (hasP l [45] && decide (valD (wholeF (bodyF l) ++ restF (bodyF l)) = 0)) = true then errD 2 else okD ⟨hasP l [45], valD (wholeF (bodyF l) ++ restF (bodyF l)), (restF (bodyF l)).length⟩ := rfl
 have hokk := readOk_ok (b := bodyF l)
 have hdef : readOk (bodyF l) = (runF (wholeF (bodyF l)) 30 && (!pointF (bodyF l) || runF (restF (bodyF l)) 9)) := rfl
 generalize wholeF (bodyF l) = W at *
 generalize restF (bodyF l) = R at *
 generalize pointF (bodyF l) = pt at *
 generalize hasP l [45] = ng at *
 generalize readOk (bodyF l) = ok at *
 generalize readF l = RF at *
 refine Sm.seq ?_
 refine Sm.seqC (fun e L' s' => e = .normal ∧ Hp (fun _ => False) z [] [blkA p2 p2 Dc.zero.cells 4] s' ∧ Sub [(2, .pointer (some ⟨p2, 0, none⟩)), (5, .bool ng), (6, sv W), (7, sv R), (37, .bool (!ok))] L') ?_ ?_
 · conv => whnf
   refine hp.call (run_spec hp.wf W (by omega) 30) ?_
   clear hp
   rintro _ s rfl hp _
   conv => whnf
   cases h1 : runF W 30 with
   | false =>
     have : ok = false := by rw [hdef, h1]; rfl
     subst this
     repeat ((first | refine Br.y1 ?_ | refine Br.n1 ?_); conv => whnf)
     exact ⟨rfl, hp, subK_ok ⟨rfl, rfl, rfl, rfl, rfl, trivial⟩⟩
   | true =>
     repeat ((first | refine Br.y1 ?_ | refine Br.n1 ?_); conv => whnf)
     cases pt with
     | false =>
       have : ok = true := by rw [hdef, h1]; rfl
       subst this
       repeat ((first | refine Br.y1 ?_ | refine Br.n1 ?_); conv => whnf)
       exact ⟨rfl, hp, subK_ok ⟨rfl, rfl, rfl, rfl, rfl, trivial⟩⟩
     | true =>
       repeat ((first | refine Br.y1 ?_ | refine Br.n1 ?_); conv => whnf)
       refine hp.call (run_spec hp.wf R (by omega) 9) ?_
       clear hp
       rintro _ s rfl hp _
       conv => whnf
       have : ok = runF R 9 := by rw [hdef, h1]; rfl
       rw [← this]
       repeat ((first | refine Br.y1 ?_ | refine Br.n1 ?_); conv => whnf)
       exact ⟨rfl, hp, subK_ok ⟨rfl, rfl, rfl, rfl, rfl, trivial⟩⟩
 clear hp
 rintro e L' s ⟨rfl, hp, hs⟩
 refine Sm.weak _ hs ?_
 clear hs
 refine Sm.ofW ?_
 conv => whnf
 cases ok with
 | false =>
   repeat ((first | refine Br.y1 ?_ | refine Br.n1 ?_); conv => whnf)
   refine hp.storeW (vs := Dc.zero.cells) rfl .d csx rfl rfl rfl ?_
   clear hp
   intro s hp _
   conv => whnf
   refine hp.loadA (l := Dc.zero.cells) .d rfl (by rfl) rfl rfl ?_
   conv => whnf
   refine ⟨hp.fr, ?_⟩
   rw [hread, if_pos rfl]
   rfl
 | true =>
   rw [if_neg (by decide)] at hread
   obtain ⟨h39, hall⟩ := hokk rfl
   repeat ((first | refine Br.y1 ?_ | refine Br.n1 ?_); conv => whnf)
   refine Sm.seqW ?_
   conv => whnf
   refine hp.call (lOf_spec hp.wf (a := 0) (by decide)) ?_
   clear hp
   rintro _ s rfl hp _
   conv => whnf
   refine hp.alloc (cs := C2 0 0) (e := 1) rfl rfl rfl rfl rfl ?_
   clear hp
   intro p9 s hp _
   conv => whnf
   refine hp.storeW (vs := C2 (0 % w64) (0 / w64)) rfl .d csx rfl rfl rfl ?_
   clear hp
   intro s hp _
   conv => whnf
   refine Sm.live [2, 5, 6, 7, 9, 10] ?_
   conv => whnf
   refine Sm.seq ?_
   refine Sm.seqW ?_
   conv => whnf
   refine Om.of _ (str_add ⟨W.toArray⟩ ⟨R.toArray⟩ (by rw [bs_mk, bs_mk]; simp at h39; omega)) ?_
   conv => whnf
   have e0 : bs ⟨(bs ⟨W.toArray⟩ ++ bs ⟨R.toArray⟩).toArray⟩ = W ++ R := rfl
   refine hp.bytesOf Tryz.underlying9 Tryz.underlying59 Tryz.underlying5 ⟨(bs ⟨W.toArray⟩ ++ bs ⟨R.toArray⟩).toArray⟩ ?_
   clear hp
   intro pb s hp _
   rw [e0] at hp ⊢
   generalize hWR : W ++ R = Y at *
   conv => whnf
   refine Sm.block ?_
   refine Sm.loop ?_
   refine Lp.ofS (α := Nat × Nat × Bool) (fun x => [(2, .pointer (some ⟨p2, 0, none⟩)), (5, .bool ng), (7, sv R), (9, .pointer (some ⟨p9, 0, none⟩)), (10, .bool x.2.2), (43, .slice (some ⟨pb, 0, none⟩) Y.length Y.length), (44, .int .i64 (Y.length : Int)), (45, .int .i64 (x.1 : Int))])
    (fun x s' => x.1 ≤ Y.length ∧ RdOk Y x.1 x.2.1 x.2.2 ∧ Hp (fun _ => False) z [] [blkA pb pb (byteVals Y) 1, blkA p9 p9 (C2 (x.2.1 % w64) (x.2.1 / w64)) 1, blkA p2 p2 Dc.zero.cells 4] s') (fun x => Y.length - x.1) ?_ (0, 0, false) (subK_ok (by refine ⟨rfl, rfl, rfl, rfl, rfl, rfl, rfl, rfl, trivial⟩)) ⟨Nat.zero_le _, ⟨by decide, by simp [valD], fun _ => by simp [valD]⟩, hp⟩
   clear hp
   rintro ⟨i, c, ov⟩ s ⟨hi, ok, hp⟩
   simp only at hi ok hp
   refine Sm.seqW ?_
   conv => whnf
   refine Sm.seq ?_
   refine Sm.ofW ?_
   conv => whnf
   refine Br.mk (fun hc => ?_) (fun hc => ?_)
   · have hc : i < Y.length := by have h : (i : Int) < (Y.length : Int) := of_decide_eq_true hc; omega
     obtain ⟨d1, d2⟩ := isD_d (hall Y[i] (List.getElem_mem hc))
     have htake : Y.take (i + 1) = Y.take i ++ [Y[i]] := List.take_succ_eq_append_getElem hc
     have hval : valD (Y.take (i + 1)) = 10 * valD (Y.take i) + (Y[i].toNat - 48) := by rw [htake, valD_snoc]
     have c30 := ok.c30
     conv => whnf
     refine Sm.seq ?_
     refine Sm.block ?_
     refine Sm.seqW ?_
     conv => whnf
     have hix := idx_at (P := Tryz.prog) BD (b := pb) (off := 0) (c := Y.length) .i64 hc
     refine Om.of _ (hix) ?_
     conv => whnf
     refine hp.load (v := .int .u8 ((Y[i].toNat : Nat) : Int)) .d (by rw [Nat.zero_add, Nat.mul_one]; simp [byteVals, hc]) rfl rfl rfl ?_
     conv => whnf
     refine Sm.live [2, 5, 7, 9, 10, 12, 43, 44, 45] ?_
     conv => whnf
     refine Sm.seqW ?_
     conv => whnf
     refine ⟨[0, 0, 3, 7, 15, 31, 31, 0, 191, 511], by decide +kernel, by decide +kernel, ?_⟩
     conv => whnf
     refine hp.loadA (l := C2 (c % w64) (c / w64)) .d rfl (by rfl) rfl rfl ?_
     conv => whnf
     refine hp.rst.call (lOf_spec hp.rst.wf (a := 10) (by decide)) ?_
     rintro _ s1 rfl h1 k1
     conv => whnf
     refine hp.dkN h1 k1 ?_
     clear hp h1 k1
     intro s hp
     conv => whnf
     refine hp.rst.call (lMul_spec hp.rst.wf (a := c) (b := 10) (Nat.lt_trans c30 (by decide)) (by decide)) ?_
     rintro _ s1 rfl h1 k1
     conv => whnf
     refine hp.dkN h1 k1 ?_
     clear hp h1 k1
     intro s hp
     conv => whnf
     have hcm : c * 10 < w128 := Nat.lt_of_lt_of_le ((Nat.mul_lt_mul_right (by decide)).2 c30) (by decide)
     refine hp.rst.call (lShort_ok hp.rst.wf hcm) ?_
     rintro _ s1 rfl h1 k1
     conv => whnf
     refine hp.dkN h1 k1 ?_
     clear hp h1 k1
     intro s hp
     conv => whnf
     refine hp.rst.alloc (cs := C2 0 0) (e := 1) rfl rfl rfl rfl rfl ?_
     intro p13 s1 h1 k1
     conv => whnf
     refine hp.dkN h1 k1 ?_
     clear hp h1 k1
     intro s hp
     conv => whnf
     refine hp.rst.storeW (vs := C2 (c * 10 % w64) (c * 10 / w64)) rfl .d csx rfl rfl rfl ?_
     intro s1 h1 l1
     conv => whnf
     refine hp.dkW h1 l1 ?_
     clear hp h1 l1
     intro s hp
     conv => whnf
     refine Sm.live [2, 5, 7, 9, 10, 12, 13, 14, 43, 44, 45] ?_
     conv => whnf
     refine Sm.seqW ?_
     conv => whnf
     refine ⟨[0, 0, 2, 6, 14, 31, 63, 127, 127, 255, 1023], by decide +kernel, by decide +kernel, ?_⟩
     conv => whnf
     refine hp.loadA (l := C2 (c * 10 % w64) (c * 10 / w64)) .d rfl (by rfl) rfl rfl ?_
     conv => whnf
     have ed : IntKind.u64.wrap (IntKind.u8.wrap (((Y[i].toNat : Nat) : Int) - 48)) = ((Y[i].toNat - 48 : Nat) : Int) := by rw [wrap_u8i, wrap_u64i]; omega
     obtain ⟨d, hd⟩ : ∃ d, d = Y[i].toNat - 48 := ⟨_, rfl⟩
     have hd9 : d ≤ 9 := by omega
     rw [← hd] at hval ed
     rw [ed]
     refine hp.rst.call (lOf_spec hp.rst.wf (a := d) (by simp only [w64]; omega)) ?_
     rintro _ s1 rfl h1 k1
     conv => whnf
     refine hp.dkN h1 k1 ?_
     clear hp h1 k1
     intro s hp
     conv => whnf
     have hdw : d < w128 := by simp only [w128]; omega
     have hsum : c * 10 + d < w128 := by simp only [w128]; omega
     refine hp.rst.call (lAdd_ok hp.rst.wf hcm hdw hsum) ?_
     rintro _ s1 rfl h1 k1
     conv => whnf
     refine hp.dkN h1 k1 ?_
     clear hp h1 k1
     intro s hp
     conv => whnf
     refine hp.rst.storeW (vs := C2 ((c * 10 + d) % w64) ((c * 10 + d) / w64)) rfl .d csx rfl rfl rfl ?_
     intro s1 h1 l1
     conv => whnf
     refine hp.dkW h1 l1 ?_
     clear hp h1 l1
     intro s hp
     conv => whnf
     refine Sm.live [2, 5, 7, 9, 10, 13, 14, 15, 43, 44, 45] ?_
     conv => whnf
     have ov2 : ov = true → 10 ^ 30 ≤ valD (Y.take (i + 1)) := fun h => by
      have := ok.ov
      rw [h] at this
      have := of_decide_eq_true this.symm
      rw [hval]; omega
     have nov : ov = false → valD (Y.take (i + 1)) = c * 10 + d := fun h => by rw [hval, ← ok.val h]; omega
     obtain ⟨ov', hov'⟩ : ∃ o, o = decide (10 ^ 30 ≤ valD (Y.take (i + 1))) := ⟨_, rfl⟩
     obtain ⟨c', hc'⟩ : ∃ c', c' = if ov' = true then c else c * 10 + d := ⟨_, rfl⟩
     have ok2 : RdOk Y (i + 1) c' ov' := by
      refine ⟨?_, hov', fun h => ?_⟩
      · rw [hc']
        split
        · exact c30
        · rename_i g
          have g' : ov' = false := by simpa using g
          have h1 : ¬ 10 ^ 30 ≤ valD (Y.take (i + 1)) := by rw [g'] at hov'; exact of_decide_eq_false hov'.symm
          cases hov : ov with
          | true => exact absurd (ov2 hov) h1
          | false => rw [← nov hov]; omega
      · rw [hc', h, if_neg (by decide)]
        have h1 : ¬ 10 ^ 30 ≤ valD (Y.take (i + 1)) := by rw [h] at hov'; exact of_decide_eq_false hov'.symm
        cases hov : ov with
        | true => exact absurd (ov2 hov) h1
        | false => exact (nov hov).symm
     have ei : IntKind.i64.wrap ((i : Int) + 1) = ((i + 1 : Nat) : Int) := by rw [wi64 (by omega) (by omega)]; push_cast; rfl
     refine Sm.seqC (fun e L' s' => e = .normal ∧ Hp (fun _ => False) z [] [blkA pb pb (byteVals Y) 1, blkA p13 p13 (C2 ((c * 10 + d) % w64) ((c * 10 + d) / w64)) 1, blkA p9 p9 (C2 (c % w64) (c / w64)) 1, blkA p2 p2 Dc.zero.cells 4] s' ∧ Sub [(2, .pointer (some ⟨p2, 0, none⟩)), (5, .bool ng), (7, sv R), (9, .pointer (some ⟨p9, 0, none⟩)), (10, .bool ov'), (13, .pointer (some ⟨p13, 0, none⟩)), (43, .slice (some ⟨pb, 0, none⟩) Y.length Y.length), (44, .int .i64 (Y.length : Int)), (45, .int .i64 (i : Int))] L') ?_ ?_
     · conv => whnf
       cases hov : ov with
       | true =>
         have : ov' = true := by rw [hov']; exact decide_eq_true (ov2 hov)
         rw [this]
         repeat ((first | refine Br.y1 ?_ | refine Br.n1 ?_); conv => whnf)
         exact ⟨rfl, hp.pik (by repeat (first | exact Pik.nil | exact Pik.refl _ | exact Rm.here | apply Rm.there | apply Pik.cons | apply Pik.skip)), subK_ok ⟨rfl, rfl, rfl, rfl, rfl, rfl, rfl, rfl, rfl, trivial⟩⟩
       | false =>
         repeat ((first | refine Br.y1 ?_ | refine Br.n1 ?_); conv => whnf)
         refine hp.loadA (l := C2 ((c * 10 + d) % w64) ((c * 10 + d) / w64)) .d rfl (by rfl) rfl rfl ?_
         conv => whnf
         repeat ((first | refine Br.y1 ?_ | refine Br.n1 ?_); conv => whnf)
         refine hp.call (small_spec hp.wf hsum) ?_
         clear hp
         rintro _ s rfl hp _
         conv => whnf
         repeat ((first | refine Br.y1 ?_ | refine Br.n1 ?_); conv => whnf)
         have : ov' = !decide (c * 10 + d < 10 ^ 30) := by
          rw [hov', nov hov]
          by_cases g : c * 10 + d < 10 ^ 30
          · rw [decide_eq_true g, decide_eq_false (by omega)]; rfl
          · rw [decide_eq_false g, decide_eq_true (by omega)]; rfl
         rw [this]
         exact ⟨rfl, hp.pik (by repeat (first | exact Pik.nil | exact Pik.refl _ | exact Rm.here | apply Rm.there | apply Pik.cons | apply Pik.skip)), subK_ok ⟨rfl, rfl, rfl, rfl, rfl, rfl, rfl, rfl, rfl, trivial⟩⟩
     clear hp
     rintro e L' s ⟨rfl, hp, hs⟩
     refine Sm.weak _ hs ?_
     clear hs
     refine Sm.seqW ?_
     conv => whnf
     refine Sm.ofW ?_
     conv => whnf
     cases hv : ov' with
     | true =>
       rw [hv] at hc' ok2
       rw [if_pos rfl] at hc'
       subst hc'
       repeat ((first | refine Br.y1 ?_ | refine Br.n1 ?_); conv => whnf)
       refine Sm.ofW ?_
       conv => whnf
       exact ⟨(i + 1, c', true), by (show Y.length - (i + 1) < Y.length - i); omega, subK_ok (by refine ⟨rfl, rfl, rfl, rfl, rfl, rfl, rfl, congrArg (fun x => some (Value.int .i64 x)) ei, trivial⟩), (by (show i + 1 ≤ Y.length); omega), ok2, hp.pik (by repeat (first | exact Pik.nil | exact Pik.refl _ | exact Rm.here | apply Rm.there | apply Pik.cons | apply Pik.skip))⟩
     | false =>
       rw [hv] at hc' ok2
       rw [if_neg (by decide)] at hc'
       repeat ((first | refine Br.y1 ?_ | refine Br.n1 ?_); conv => whnf)
       refine hp.loadA (l := C2 ((c * 10 + d) % w64) ((c * 10 + d) / w64)) .d rfl (by rfl) rfl rfl ?_
       conv => whnf
       refine hp.storeW (vs := C2 ((c * 10 + d) % w64) ((c * 10 + d) / w64)) rfl .d csx rfl rfl rfl ?_
       clear hp
       intro s hp _
       conv => whnf
       rw [← hc'] at hp
       refine Sm.ofW ?_
       conv => whnf
       exact ⟨(i + 1, c', false), by (show Y.length - (i + 1) < Y.length - i); omega, subK_ok (by refine ⟨rfl, rfl, rfl, rfl, rfl, rfl, rfl, congrArg (fun x => some (Value.int .i64 x)) ei, trivial⟩), (by (show i + 1 ≤ Y.length); omega), ok2, hp.pik (by repeat (first | exact Pik.nil | exact Pik.refl _ | exact Rm.here | apply Rm.there | apply Pik.cons | apply Pik.skip))⟩
   · have hc : ¬ i < Y.length := by have h : ¬ (i : Int) < (Y.length : Int) := of_decide_eq_false hc; omega
     obtain rfl : i = Y.length := by omega
     have hov := ok.ov
     have hv := ok.val
     rw [List.take_length] at hov hv
     have c30 := ok.c30
     have cw : c < w128 := Nat.lt_trans c30 (by decide)
     conv => whnf
     refine Sm.seq ?_
     refine Sm.block ?_
     refine Sm.seqW ?_
     conv => whnf
     refine Sm.ofW ?_
     conv => whnf
     cases hovc : ov with
     | true =>
       rw [hovc] at hov
       rw [if_pos (of_decide_eq_true hov.symm)] at hread
       repeat ((first | refine Br.y1 ?_ | refine Br.n1 ?_); conv => whnf)
       refine hp.storeW (vs := Dc.zero.cells) rfl .d csx rfl rfl rfl ?_
       clear hp
       intro s hp _
       conv => whnf
       refine hp.loadA (l := Dc.zero.cells) .d rfl (by rfl) rfl rfl ?_
       conv => whnf
       refine ⟨hp.fr, ?_⟩
       rw [hread]; rfl
     | false =>
       rw [hovc] at hov
       rw [if_neg (of_decide_eq_false hov.symm)] at hread
       have hv := hv hovc
       rw [← hv] at hread
       cases ng with
       | false =>
         repeat ((first | refine Br.y1 ?_ | refine Br.n1 ?_); conv => whnf)
         refine Sm.seqW ?_
         conv => whnf
         refine hp.loadA (l := C2 (c % w64) (c / w64)) .d rfl (by rfl) rfl rfl ?_
         conv => whnf
         refine hp.storeW (vs := (Dc.mk false c (R.length : Int)).cells) rfl .d csx rfl rfl rfl ?_
         clear hp
         intro s hp _
         conv => whnf
         refine Sm.ofW ?_
         conv => whnf
         refine hp.loadA (l := (Dc.mk false c (R.length : Int)).cells) .d rfl (by rfl) rfl rfl ?_
         conv => whnf
         refine ⟨hp.fr, ?_⟩
         rw [hread]; rfl
       | true =>
         repeat ((first | refine Br.y1 ?_ | refine Br.n1 ?_); conv => whnf)
         refine hp.loadA (l := C2 (c % w64) (c / w64)) .d rfl (by rfl) rfl rfl ?_
         conv => whnf
         repeat ((first | refine Br.y1 ?_ | refine Br.n1 ?_); conv => whnf)
         refine hp.call (nought_spec hp.wf c) ?_
         clear hp
         rintro _ s rfl hp _
         conv => whnf
         by_cases h0 : c = 0
         · rw [decide_eq_true h0]
           repeat ((first | refine Br.y1 ?_ | refine Br.n1 ?_); conv => whnf)
           refine hp.storeW (vs := Dc.zero.cells) rfl .d csx rfl rfl rfl ?_
           clear hp
           intro s hp _
           conv => whnf
           refine hp.loadA (l := Dc.zero.cells) .d rfl (by rfl) rfl rfl ?_
           conv => whnf
           refine ⟨hp.fr, ?_⟩
           rw [hread, decide_eq_true h0]; rfl
         · rw [decide_eq_false h0]
           repeat ((first | refine Br.y1 ?_ | refine Br.n1 ?_); conv => whnf)
           refine Sm.seqW ?_
           conv => whnf
           refine hp.loadA (l := C2 (c % w64) (c / w64)) .d rfl (by rfl) rfl rfl ?_
           conv => whnf
           refine hp.storeW (vs := (Dc.mk true c (R.length : Int)).cells) rfl .d csx rfl rfl rfl ?_
           clear hp
           intro s hp _
           conv => whnf
           refine Sm.ofW ?_
           conv => whnf
           refine hp.loadA (l := (Dc.mk true c (R.length : Int)).cells) .d rfl (by rfl) rfl rfl ?_
           conv => whnf
           refine ⟨hp.fr, ?_⟩
           rw [hread, decide_eq_false h0]; rfl
end

/- limb.Bits; pieces of an array. No condition. -/
section
variable [Lk]
theorem bits_spec {z : St} (wf : WF z) {n : Nat} (hn : n < w256) : Cw Tryz.prog 105 [W4 n] z fun r s' => K0 z s' ∧ ∃ k : Nat, r = .int .i64 (k : Int) ∧ (k = 0 ↔ n = 0) := by
 have hp : Hp (fun _ => False) z [] [] z := Hp.start _ wf _ (by simp)
 refine Cw.enterS Tryz.func105 rfl rfl ?_
 refine Sm.seqW ?_
 conv => whnf
 refine hp.var (cs := natU (ws n)) (e := 1) (w4_ws hn) rfl ?_
 clear hp
 intro p1 s hp _
 conv => whnf
 refine Sm.live [1] ?_
 conv => whnf
 refine Sm.seq ?_
 refine Sm.seqW ?_
 conv => whnf
 refine Sm.block ?_
 refine Sm.loop ?_
 refine Lp.ofS (α := Nat) (fun k => [(1, .pointer (some ⟨p1, 0, none⟩)), (3, .int .i64 ((k : Int) - 1))])
  (fun k s' => k ≤ 256 ∧ n < 2 ^ k ∧ Hp (fun _ => False) z [] [blkA p1 p1 (natU (ws n)) 1] s') (fun k => k) ?_ 256 (subK_ok (by refine ⟨rfl, rfl, trivial⟩)) ⟨Nat.le_refl _, hn, hp⟩
 clear hp
 rintro k s ⟨hk, hE, hp⟩
 cases k with
 | zero =>
   refine Sm.seq ?_
   refine Sm.seqW ?_
   conv => whnf
   refine Sm.ofW ?_
   conv => whnf
   refine Br.no (rfl) ?_
   conv => whnf
   refine Sm.seqW ?_
   conv => whnf
   refine Sm.ofW ?_
   conv => whnf
   exact ⟨hp.fr, 0, rfl, by simp at hE ⊢; exact hE⟩
 | succ i =>
   have hk0 : decide ((i : Int) ≥ 0) = true := decide_eq_true (by omega)
   refine Sm.weak [(1, .pointer (some ⟨p1, 0, none⟩)), (3, .int .i64 (i : Int))] (subK_ok ⟨rfl, congrArg (fun x => some (Value.int .i64 x)) (show ((i + 1 : Nat) : Int) - 1 = (i : Int) by push_cast; omega), trivial⟩) ?_
   refine Sm.seq ?_
   refine Sm.seqW ?_
   conv => whnf
   refine Sm.ofW ?_
   conv => whnf
   refine Br.yes (hk0) ?_
   conv => whnf
   refine Sm.seq ?_
   refine Sm.block ?_
   refine Sm.seqW ?_
   conv => whnf
   refine Om.of _ (quo_nat (n := i) (m := 64) (by decide) (by omega)) ?_
   conv => whnf
   refine Om.of _ (ixA Tryz.underlying102 (by rfl) rfl .i64 (i := i / 64) (by omega)) ?_
   conv => whnf
   refine hp.load .d (show (natU (ws n))[0 + i / 64]? = some (.int .u64 ((wd n (i / 64) : Nat) : Int)) by rw [Nat.zero_add]; exact wd_get n (i / 64) (by omega)) rfl rfl rfl ?_
   conv => whnf
   refine Om.of _ (rem_nat (n := i) (m := 64) (by decide)) ?_
   conv => whnf
   refine Om.of _ (shr_u64 _ (i % 64) (by omega)) ?_
   conv => whnf
   have e8 : IntKind.u64.wrap ((BitVec.ofInt IntKind.u64.bits ((wd n (i / 64) / 2 ^ (i % 64) : Nat) : Int) &&& BitVec.ofInt IntKind.u64.bits 1).toNat : Int) = ((n / 2 ^ i % 2 : Nat) : Int) := by
    have hx : wd n (i / 64) / 2 ^ (i % 64) < w64 := Nat.lt_of_le_of_lt (Nat.div_le_self _ _) (wd_lt _ _)
    have ha1 := and_u64 (b := 1) hx (by decide)
    rw [Nat.and_one_is_mod, wd_bit n i] at ha1
    rw [show (BitVec.ofInt IntKind.u64.bits 1) = BitVec.ofInt IntKind.u64.bits ((1 : Nat) : Int) from rfl, ha1]
   refine Sm.ofW ?_
   conv => whnf
   have h2 : 2 ^ (i + 1) = 2 * 2 ^ i := by rw [Nat.pow_succ, Nat.mul_comm]
   have hdm := Nat.div_add_mod n (2 ^ i)
   by_cases hb : n / 2 ^ i % 2 = 0
   · have hd : decide (IntKind.u64.wrap ((BitVec.ofInt IntKind.u64.bits ((wd n (i / 64) / 2 ^ (i % 64) : Nat) : Int) &&& BitVec.ofInt IntKind.u64.bits 1).toNat : Int) > 0) = false := by
      rw [e8, hb]; rfl
     refine Br.no (hd) ?_
     conv => whnf
     refine Sm.ofW ?_
     conv => whnf
     have hz : n / 2 ^ i = 0 := by
      have : n / 2 ^ i < 2 := (Nat.div_lt_iff_lt_mul (Nat.pow_pos (by decide))).2 (by rw [← h2]; exact hE)
      clear hdm h2 hE
      generalize n / 2 ^ i = q at this hb ⊢
      omega
     have ei : IntKind.i64.wrap ((i : Int) - 1) = (i : Int) - 1 := wi64 (by omega) (by omega)
     refine ⟨i, Nat.lt_succ_self i, subK_ok (by refine ⟨rfl, congrArg (fun x => some (Value.int .i64 x)) ei, trivial⟩), by omega, ?_, hp⟩
     rw [hz, Nat.mul_zero, Nat.zero_add] at hdm
     rw [← hdm]; exact Nat.mod_lt _ (Nat.pow_pos (by decide))
   · have hd : decide (IntKind.u64.wrap ((BitVec.ofInt IntKind.u64.bits ((wd n (i / 64) / 2 ^ (i % 64) : Nat) : Int) &&& BitVec.ofInt IntKind.u64.bits 1).toNat : Int) > 0) = true := by
      rw [e8]; exact decide_eq_true (by omega)
     refine Br.yes (hd) ?_
     conv => whnf
     have ei : IntKind.i64.wrap ((i : Int) + 1) = ((i + 1 : Nat) : Int) := by rw [wi64 (by omega) (by omega)]; push_cast; rfl
     refine ⟨hp.fr, i + 1, congrArg (Value.int .i64) ei, ?_⟩
     refine ⟨fun h => by omega, fun h => ?_⟩
     rw [h, Nat.zero_div] at hb
     exact absurd rfl hb
theorem slice_arr {P : Program} {t n e : Nat} (hu : P.underlying t = some (.array n e)) {j : TypeInfo} (hin : P.info? e = some j) (hj : j.size = 1) {s : St} {k b : Nat} {l : List UInt8} (hb : Blk s k b (byteVals l) 1) (hn : l.length = n) (hn0 : 0 < n)
  {lo hi : Option Nat} (h1 : lo.getD 0 ≤ hi.getD n) (h2 : hi.getD n ≤ n) :
  ∃ v, evSliceMem P t (.pointer (some ⟨b, 0, none⟩)) (bndV .i64 lo) (bndV .i64 hi) none s = some v ∧ Sb s (some k) v ((l.drop (lo.getD 0)).take (hi.getD n - lo.getD 0)) := by
 have hbd : bnds n n (bndV .i64 lo) (bndV .i64 hi) none = some (lo.getD 0, hi.getD n, n) := by
  unfold bnds
  cases lo <;> cases hi <;> simp only [bndV, Option.getD_none, Option.getD_some] at h1 h2 ⊢
  · rw [bnd_nat h2]
  · rw [bnd_nat h1]
  · rw [bnd_nat h2]; simp only; rw [bnd_nat h1]
 refine ⟨.slice (some ⟨b, lo.getD 0, none⟩) (hi.getD n - lo.getD 0) (n - lo.getD 0), ?_, ?_⟩
 · obtain ⟨base, fl, g1, g2, g3⟩ := hb.ex
   have e1 := hb.esz
   have e2 := hb.rd
   unfold evSliceMem
   rw [hu]
   simp only [hin, e1, e2, hj, Nat.beq_refl, Nat.mul_one, blt_of hn0, byteVals_length, Nat.zero_add, hn, Nat.ble_eq_true_of_le (Nat.le_refl n), g1, hbd]
 · have hlen : ((l.drop (lo.getD 0)).take (hi.getD n - lo.getD 0)).length = hi.getD n - lo.getD 0 := by simp; omega
   have hv : byteVals ((l.drop (lo.getD 0)).take (hi.getD n - lo.getD 0)) = ((byteVals l).drop (lo.getD 0)).take (hi.getD n - lo.getD 0) := by simp [byteVals, List.map_take, List.map_drop]
   refine ⟨.inr ⟨b, lo.getD 0, n - lo.getD 0, byteVals l, by rw [hlen], by rw [hlen]; omega, by rw [byteVals_length, Nat.mul_one], ?_, .inl ⟨k, rfl, hb⟩⟩⟩
   rw [hv, hlen, Nat.mul_one]
   unfold sl
   simp only
   have : (((byteVals l).drop (lo.getD 0)).take (hi.getD n - lo.getD 0)).length = hi.getD n - lo.getD 0 := by rw [← hv, byteVals_length, hlen]
   rw [this, Nat.beq_refl]
end

/- dec.Print walked. No condition. -/
section
variable [Lk]
def dch (c k : Nat) : UInt8 := UInt8.ofNat (48 + c / 10 ^ k % 10)
def pl (c n : Nat) : List UInt8 := (List.range n).map (dch c)
theorem pl_succ (c n : Nat) : pl c (n + 1) = pl c n ++ [dch c n] := by simp [pl, List.range_succ]
theorem pl_len (c n : Nat) : (pl c n).length = n := by simp [pl]
def np (c sc : Nat) : Nat := max (sc + 1) (dg c).length
theorem dg_more {c i : Nat} : i < (dg c).length ↔ 0 < c / 10 ^ i := by
 have h := (dg_dl c).small i
 rw [Vd_dg] at h
 have hp := p10 i
 constructor
 · intro g
   have : ¬ c < 10 ^ i := fun k => by have := h.1 k; omega
   exact Nat.div_pos (by omega) hp
 · intro g
   rcases Nat.lt_or_ge i (dg c).length with k | k
   · exact k
   · have := h.2 k
     rw [Nat.div_eq_of_lt this] at g; exact absurd g (by decide)
theorem np_more {c sc i : Nat} : i < np c sc ↔ i ≤ sc ∨ 0 < c / 10 ^ i := by
 unfold np
 rw [← dg_more]; omega
theorem np_le {c sc : Nat} (hc : c < 10 ^ 30) (hs : sc ≤ 9) : np c sc ≤ 30 := by
 have := dg_len 30 c hc
 unfold np; omega
def printF (d : Dc) : List UInt8 :=
 if d.right = false then [] else
 (if d.neg = true then [45] else []) ++ ((pl d.c (np d.c d.scale.toNat)).reverse.take (np d.c d.scale.toNat - d.scale.toNat) ++
  (if 0 < d.scale then [46] ++ (pl d.c (np d.c d.scale.toNat)).reverse.drop (np d.c d.scale.toNat - d.scale.toNat) else []))
theorem lDiv_ten {z : St} (wf : WF z) {a : Nat} (ha : a < w256) : Cw Tryz.prog 106 [W4 a, W2 10] z fun r s' => K0 z s' ∧ r = .tuple #[W4 (a / 10), W2 (a % 10), .bool true] :=
 lDiv_spec wf ha (by decide) (by decide)
def fieldL (c i : Nat) : List UInt8 := List.replicate (31 - i) 0 ++ (pl c i).reverse
theorem fieldL_len {c i : Nat} (h : i ≤ 31) : (fieldL c i).length = 31 := by simp [fieldL, pl_len]; omega
theorem fieldL_set {c i : Nat} (h : i < 31) : (fieldL c i).set (30 - i) (dch c i) = fieldL c (i + 1) := by
 unfold fieldL
 rw [pl_succ, List.reverse_append, show 31 - i = (30 - i) + 1 by omega, List.replicate_succ', List.append_assoc, show 31 - (i + 1) = 30 - i by omega]
 rw [List.set_append_right _ _ (by simp)]
 simp
theorem figs_dch : ∀ j, (h : j < 10) → figs[j]'h = UInt8.ofNat (48 + j) := by decide +kernel
theorem field_whole {c n k : Nat} (hn : n ≤ 31) (hk : k ≤ n) : ((fieldL c n).drop (31 - n)).take (31 - k - (31 - n)) = (pl c n).reverse.take (n - k) := by
 unfold fieldL
 rw [List.drop_left' (by simp), show 31 - k - (31 - n) = n - k by omega]
theorem field_rest {c n k : Nat} (hn : n ≤ 31) (hk : k ≤ n) : ((fieldL c n).drop (31 - k)).take (31 - (31 - k)) = (pl c n).reverse.drop (n - k) := by
 have h1 : (fieldL c n).drop (31 - k) = (pl c n).reverse.drop (n - k) := by
  unfold fieldL
  rw [List.drop_append, List.drop_eq_nil_of_le (by simp; omega), List.nil_append, List.length_replicate, show 31 - k - (31 - n) = n - k by omega]
 rw [h1, List.take_of_length_le (by simp [pl_len]; omega)]
theorem print_spec {z : St} (wf : WF z) (d : Dc) (hd : d.c < w128) : Cw Tryz.prog 61 [d.val] z fun r s' => K0 z s' ∧ r = sv (printF d) := by
 have hp : Hp (fun _ => False) z [] [] z := Hp.start _ wf _ (by simp)
 refine Cw.enterS Tryz.func61 rfl rfl ?_
 refine Sm.seqW ?_
 conv => whnf
 refine hp.var (cs := d.cells) (e := 4) rfl rfl ?_
 clear hp
 intro p1 s hp _
 conv => whnf
 refine Sm.live [1] ?_
 conv => whnf
 refine Sm.seq ?_
 refine Sm.seqW ?_
 conv => whnf
 refine hp.loadA (l := d.cells) .d rfl (by rfl) rfl rfl ?_
 conv => whnf
 refine hp.call (right_spec hp.wf d hd) ?_
 clear hp
 rintro _ s rfl hp _
 conv => whnf
 unfold printF
 cases hr : d.right with
 | false =>
   rw [if_pos rfl]
   repeat ((first | refine Br.y1 ?_ | refine Br.n1 ?_); conv => whnf)
   refine Sm.ofW ?_
   conv => whnf
   repeat ((first | refine Br.y1 ?_ | refine Br.n1 ?_); conv => whnf)
   exact ⟨hp.fr, rfl⟩
 | true =>
   rw [if_neg (by decide)]
   obtain ⟨a1, a2, a3⟩ := Dc.right_c hr
   obtain ⟨ng, c, sc⟩ := d
   simp only at hd a1 a2 a3 ⊢
   obtain ⟨k, rfl⟩ : ∃ k : Nat, sc = k := ⟨sc.toNat, by omega⟩
   rw [Int.toNat_natCast]
   have hnp := np_le a1 (show k ≤ 9 by omega)
   have hmore : ∀ i, i < np c k ↔ i ≤ k ∨ 0 < c / 10 ^ i := fun i => np_more
   generalize np c k = n at *
   refine Sm.ofW ?_
   conv => whnf
   repeat ((first | refine Br.y1 ?_ | refine Br.n1 ?_); conv => whnf)
   refine Sm.seqW ?_
   conv => whnf
   refine hp.alloc (cs := byteVals (fieldL c 0)) (e := 1) rfl rfl rfl (by kernel_rfl) rfl ?_
   clear hp
   intro p3 s hp _
   conv => whnf
   refine Sm.live [1, 3] ?_
   conv => whnf
   refine Sm.seqW ?_
   conv => whnf
   refine hp.loadA (l := C2 (c % w64) (c / w64)) .d rfl (by rfl) rfl rfl ?_
   conv => whnf
   refine hp.call (lWide_spec hp.wf hd) ?_
   clear hp
   rintro _ s rfl hp _
   conv => whnf
   refine hp.alloc (cs := C4 0 0 0 0) (e := 1) rfl rfl rfl rfl rfl ?_
   clear hp
   intro p5 s hp _
   conv => whnf
   refine hp.storeW (vs := C4 (c % w64) (c / w64 % w64) (c / w128 % w64) (c / w192)) rfl .d csx rfl rfl rfl ?_
   clear hp
   intro s hp _
   conv => whnf
   refine Sm.live [1, 3, 4, 5] ?_
   conv => whnf
   refine Sm.seq ?_
   refine Sm.block ?_
   refine Sm.loop ?_
   refine Lp.ofS (α := Nat) (fun i => [(1, .pointer (some ⟨p1, 0, none⟩)), (3, .pointer (some ⟨p3, 0, none⟩)), (4, .int .i64 ((31 - i : Nat) : Int)), (5, .pointer (some ⟨p5, 0, none⟩))])
    (fun i s' => i ≤ n ∧ Hp (fun _ => False) z [] [blkA p5 p5 (C4 (c / 10 ^ i % w64) (c / 10 ^ i / w64 % w64) (c / 10 ^ i / w128 % w64) (c / 10 ^ i / w192)) 1, blkA p3 p3 (byteVals (fieldL c i)) 1, blkA p1 p1 (Dc.mk ng c (k : Int)).cells 4] s') (fun i => n - i) ?_ 0 (subK_ok (by refine ⟨rfl, rfl, rfl, rfl, trivial⟩)) ⟨Nat.zero_le _, by rw [Nat.pow_zero, Nat.div_one]; exact hp.pik (by repeat (first | exact Pik.nil | exact Pik.refl _ | exact Rm.here | apply Rm.there | apply Pik.cons | apply Pik.skip))⟩
   clear hp
   rintro i s ⟨hi, hp⟩
   obtain ⟨v, hv⟩ : ∃ v, v = c / 10 ^ i := ⟨_, rfl⟩
   have hvw : v < w128 := Nat.lt_of_le_of_lt (hv ▸ Nat.div_le_self _ _) hd
   have hvw2 : v < w256 := Nat.lt_trans hvw (by decide)
   rw [← hv] at hp
   have hm := hmore i
   rw [← hv] at hm
   refine Sm.seq ?_
   refine Sm.seqC (fun e L' s' => e = .normal ∧ Hp (fun _ => False) z [] [blkA p5 p5 (C4 (v % w64) (v / w64 % w64) (v / w128 % w64) (v / w192)) 1, blkA p3 p3 (byteVals (fieldL c i)) 1, blkA p1 p1 (Dc.mk ng c (k : Int)).cells 4] s' ∧ Sub [(1, .pointer (some ⟨p1, 0, none⟩)), (3, .pointer (some ⟨p3, 0, none⟩)), (4, .int .i64 ((31 - i : Nat) : Int)), (5, .pointer (some ⟨p5, 0, none⟩)), (30, .bool (decide (i < n)))] L') ?_ ?_
   · conv => whnf
     have ew : IntKind.i64.wrap (31 - ((31 - i : Nat) : Int)) = (i : Int) := by rw [wi64 (by omega) (by omega)]; omega
     by_cases h0 : i = 0
     · have hq : (((31 - i : Nat) : Int) == 31) = true := beq_iff_eq.2 (by omega)
       repeat (first | (refine Br.yes hq ?_; conv => whnf) | ((first | refine Br.y1 ?_ | refine Br.n1 ?_); conv => whnf))
       have : decide (i < n) = true := decide_eq_true (hm.2 (.inl (by omega)))
       rw [this]
       exact ⟨rfl, hp, subK_ok ⟨rfl, rfl, rfl, rfl, rfl, trivial⟩⟩
     have hq : (((31 - i : Nat) : Int) == 31) = false := beq_eq_false_iff_ne.2 (by omega)
     repeat (first | (refine Br.no hq ?_; conv => whnf) | ((first | refine Br.y1 ?_ | refine Br.n1 ?_); conv => whnf))
     refine hp.load (v := .int .i64 (k : Int)) .d (by rfl) rfl rfl rfl ?_
     conv => whnf
     repeat (first | (refine Br.no hq ?_; conv => whnf) | ((first | refine Br.y1 ?_ | refine Br.n1 ?_); conv => whnf))
     rw [ew]
     by_cases h1 : i ≤ k
     · have hq1 : decide ((i : Int) ≤ (k : Int)) = true := decide_eq_true (by omega)
       repeat (first | (refine Br.yes hq1 ?_; conv => whnf) | (refine Br.no hq ?_; conv => whnf) | ((first | refine Br.y1 ?_ | refine Br.n1 ?_); conv => whnf))
       have : decide (i < n) = true := decide_eq_true (hm.2 (.inl h1))
       rw [this]
       exact ⟨rfl, hp, subK_ok ⟨rfl, rfl, rfl, rfl, rfl, trivial⟩⟩
     have hq1 : decide ((i : Int) ≤ (k : Int)) = false := decide_eq_false (by omega)
     repeat (first | (refine Br.no hq1 ?_; conv => whnf) | (refine Br.no hq ?_; conv => whnf) | ((first | refine Br.y1 ?_ | refine Br.n1 ?_); conv => whnf))
     refine hp.loadA (l := C4 (v % w64) (v / w64 % w64) (v / w128 % w64) (v / w192)) .d rfl (by rfl) rfl rfl ?_
     conv => whnf
     repeat (first | (refine Br.no hq1 ?_; conv => whnf) | (refine Br.no hq ?_; conv => whnf) | ((first | refine Br.y1 ?_ | refine Br.n1 ?_); conv => whnf))
     refine hp.call (bits_spec hp.wf hvw2) ?_
     clear hp
     rintro _ s ⟨kb, rfl, hkb⟩ hp _
     conv => whnf
     repeat (first | (refine Br.no hq1 ?_; conv => whnf) | (refine Br.no hq ?_; conv => whnf) | ((first | refine Br.y1 ?_ | refine Br.n1 ?_); conv => whnf))
     have : decide (i < n) = decide ((kb : Int) > 0) := decide_eq_decide.2 (by rw [hm]; omega)
     rw [this]
     exact ⟨rfl, hp, subK_ok ⟨rfl, rfl, rfl, rfl, rfl, trivial⟩⟩
   clear hp
   rintro e L' s ⟨rfl, hp, hs⟩
   refine Sm.weak _ hs ?_
   clear hs
   refine Sm.ofW ?_
   conv => whnf
   refine Br.mk (fun hc => ?_) (fun hc => ?_)
   · have hc : i < n := of_decide_eq_true hc
     conv => whnf
     refine Sm.block ?_
     refine Sm.seqW ?_
     conv => whnf
     refine ⟨[0, 0, 3, 7, 15, 15, 15, 0, 0, 415, 959, 2047], by decide +kernel, by decide +kernel, ?_⟩
     conv => whnf
     refine hp.loadA (l := C4 (v % w64) (v / w64 % w64) (v / w128 % w64) (v / w192)) .d rfl (by rfl) rfl rfl ?_
     conv => whnf
     refine hp.rst.call (lOf_spec hp.rst.wf (a := 10) (by decide)) ?_
     rintro _ s1 rfl h1 k1
     conv => whnf
     refine hp.dkN h1 k1 ?_
     clear hp h1 k1
     intro s hp
     conv => whnf
     refine hp.rst.call (lDiv_ten hp.rst.wf hvw2) ?_
     rintro _ s1 rfl h1 k1
     conv => whnf
     refine hp.dkN h1 k1 ?_
     clear hp h1 k1
     intro s hp
     conv => whnf
     refine hp.rst.alloc (cs := C4 0 0 0 0) (e := 1) rfl rfl rfl rfl rfl ?_
     intro p6 s1 h1 k1
     conv => whnf
     refine hp.dkN h1 k1 ?_
     clear hp h1 k1
     intro s hp
     conv => whnf
     refine hp.rst.alloc (cs := C2 0 0) (e := 1) rfl rfl rfl rfl rfl ?_
     intro p7 s1 h1 k1
     conv => whnf
     refine hp.dkN h1 k1 ?_
     clear hp h1 k1
     intro s hp
     conv => whnf
     refine hp.rst.storeW (vs := C4 (v / 10 % w64) (v / 10 / w64 % w64) (v / 10 / w128 % w64) (v / 10 / w192)) rfl .d csx rfl rfl rfl ?_
     intro s1 h1 l1
     conv => whnf
     refine hp.dkW h1 l1 ?_
     clear hp h1 l1
     intro s hp
     conv => whnf
     refine hp.rst.storeW (vs := C2 (v % 10 % w64) (v % 10 / w64)) rfl .d csx rfl rfl rfl ?_
     intro s1 h1 l1
     conv => whnf
     refine hp.dkW h1 l1 ?_
     clear hp h1 l1
     intro s hp
     conv => whnf
     refine Sm.live [1, 3, 4, 5, 6, 7] ?_
     conv => whnf
     refine Sm.seqW ?_
     conv => whnf
     have e30 : IntKind.i64.wrap (((31 - i : Nat) : Int) - 1) = ((30 - i : Nat) : Int) := by rw [wi64 (by omega) (by omega)]; omega
     rw [e30]
     refine Sm.live [1, 3, 4, 5, 6, 7] ?_
     conv => whnf
     refine Sm.ofW ?_
     conv => whnf
     refine ⟨[0, 0, 2, 6, 0, 15, 47, 127], by decide +kernel, by decide +kernel, ?_⟩
     conv => whnf
     refine Om.of _ (rfl) ?_
     conv => whnf
     refine hp.load (v := .int .u64 ((v % 10 % w64 : Nat) : Int)) .d (by rfl) rfl rfl rfl ?_
     conv => whnf
     have h10 : v % 10 % w64 < 10 := by simp only [w64]; omega
     refine Om.of _ (str_index Tryz.underlying9 (l := figs) (i := v % 10 % w64) h10 .u64) ?_
     conv => whnf
     have hdc : figs[v % 10 % w64]'h10 = dch c i := by
      rw [figs_dch _ h10]
      unfold dch
      rw [← hv]
      congr 2
      simp only [w64]; omega
     rw [hdc]
     refine hp.loadA (l := C4 (v / 10 % w64) (v / 10 / w64 % w64) (v / 10 / w128 % w64) (v / 10 / w192)) .d rfl (by rfl) rfl rfl ?_
     conv => whnf
     refine Om.of _ (ixA Tryz.underlying151 (by rfl) rfl .i64 (i := 30 - i) (by omega)) ?_
     conv => whnf
     have hp0 := hp
     refine hp.rst.store .d (by rw [byteVals_length, fieldL_len (by omega)]; omega) rfl rfl rfl rfl ?_
     intro s1 h1 l1
     conv => whnf
     refine hp.dkW h1 l1 ?_
     clear hp h1 l1
     intro s hp
     conv => whnf
     refine ⟨hp0.sa hp .d .d, ?_⟩
     clear hp0
     have hset : (byteVals (fieldL c i)).set (0 + (30 - i)) (.int .u8 ((dch c i).toNat : Int)) = byteVals (fieldL c (i + 1)) := by
      rw [Nat.zero_add, ← fieldL_set (by omega)]
      simp [byteVals, List.map_set]
     rw [hset] at hp
     conv => whnf
     refine hp.rst.storeW (vs := C4 (v / 10 % w64) (v / 10 / w64 % w64) (v / 10 / w128 % w64) (v / 10 / w192)) rfl .d csx rfl rfl rfl ?_
     intro s1 h1 l1
     conv => whnf
     refine hp.dkW h1 l1 ?_
     clear hp h1 l1
     intro s hp
     conv => whnf
     have hv1 : v / 10 = c / 10 ^ (i + 1) := by rw [hv, Nat.div_div_eq_div_mul, Nat.pow_succ]
     rw [hv1] at hp
     exact ⟨i + 1, by (show n - (i + 1) < n - i); omega, subK_ok (by refine ⟨rfl, rfl, congrArg (fun x => some (Value.int .i64 x)) (show ((30 - i : Nat) : Int) = ((31 - (i + 1) : Nat) : Int) by omega), rfl, trivial⟩), by omega, hp.pik (by repeat (first | exact Pik.nil | exact Pik.refl _ | exact Rm.here | apply Rm.there | apply Pik.cons | apply Pik.skip))⟩
   · have hc : ¬ i < n := of_decide_eq_false hc
     obtain rfl : i = n := by omega
     have hkn : k < i := by
      rcases Nat.lt_or_ge k i with g | g
      · exact g
      · exact absurd (hm.2 (.inl g)) (by omega)
     have hlen : (fieldL c i).length = 31 := fieldL_len (by omega)
     have e31 : IntKind.i64.wrap (31 - (k : Int)) = ((31 - k : Nat) : Int) := by rw [wi64 (by omega) (by omega)]; omega
     conv => whnf
     refine Sm.seqW ?_
     conv => whnf
     refine ⟨[0, 0, 2, 6, 15, 31, 0, 64, 192, 448, 960, 63, 4095], by decide +kernel, by decide +kernel, ?_⟩
     conv => whnf
     refine hp.load (v := .int .i64 (k : Int)) .d (by rfl) rfl rfl rfl ?_
     conv => whnf
     rw [e31]
     obtain ⟨v1, q1, b1⟩ := slice_arr (P := Tryz.prog) Tryz.underlying151 (by rfl) rfl (hp.rst.blk (k := p3) (b := p3) .d) hlen (by decide) (lo := some (31 - i)) (hi := some (31 - k)) (by simp only [Option.getD_some]; omega) (by simp only [Option.getD_some]; omega)
     simp only [Option.getD_some] at b1
     rw [field_whole (by omega) (by omega)] at b1
     refine Om.of _ (q1) ?_
     conv => whnf
     refine hp.dkS ?_
     conv => whnf
     refine Om.of _ (string_sl Tryz.underlying59 Tryz.underlying9 Tryz.underlying5 b1) ?_
     conv => whnf
     refine hp.dkS ?_
     conv => whnf
     clear q1 b1
     refine hp.load (v := .int .i64 (k : Int)) .d (by rfl) rfl rfl rfl ?_
     conv => whnf
     rw [e31]
     obtain ⟨v2, q2, b2⟩ := slice_arr (P := Tryz.prog) Tryz.underlying151 (by rfl) rfl (hp.rst.blk (k := p3) (b := p3) .d) hlen (by decide) (lo := some (31 - k)) (hi := none) (by simp only [Option.getD_some, Option.getD_none]; omega) (by simp only [Option.getD_none]; omega)
     simp only [Option.getD_some, Option.getD_none] at b2
     rw [field_rest (by omega) (by omega)] at b2
     refine Om.of _ (q2) ?_
     conv => whnf
     refine hp.dkS ?_
     conv => whnf
     refine Om.of _ (string_sl Tryz.underlying59 Tryz.underlying9 Tryz.underlying5 b2) ?_
     conv => whnf
     refine hp.dkS ?_
     conv => whnf
     clear q2 b2
     refine Sm.live [1, 9, 10] ?_
     conv => whnf
     have hwl : ((pl c i).reverse.take (i - k)).length ≤ 31 := by simp [pl_len]; omega
     have hrl : ((pl c i).reverse.drop (i - k)).length ≤ 31 := by simp [pl_len]; omega
     generalize (pl c i).reverse.take (i - k) = WH at *
     generalize (pl c i).reverse.drop (i - k) = RS at *
     refine Sm.seqC (fun e L' s' => e = .normal ∧ s' = s ∧ Sub [(1, .pointer (some ⟨p1, 0, none⟩)), (9, sv ((if ng = true then [45] else []) ++ WH)), (10, sv RS)] L') ?_ ?_
     · conv => whnf
       refine hp.load (v := .bool ng) .d (by rfl) rfl rfl rfl ?_
       conv => whnf
       cases ng with
       | false =>
         repeat ((first | refine Br.y1 ?_ | refine Br.n1 ?_); conv => whnf)
         exact ⟨rfl, rfl, subK_ok ⟨rfl, rfl, rfl, trivial⟩⟩
       | true =>
         repeat ((first | refine Br.y1 ?_ | refine Br.n1 ?_); conv => whnf)
         refine Om.of _ (str_add ⟨#[45]⟩ ⟨WH.toArray⟩ (by show 1 + WH.length ≤ _; omega)) ?_
         conv => whnf
         exact ⟨rfl, rfl, subK_ok ⟨rfl, rfl, rfl, trivial⟩⟩
     rintro e L' s' ⟨rfl, rfl, hs⟩
     refine Sm.weak _ hs ?_
     clear hs
     have hnl : ((if ng = true then [45] else []) ++ WH : List UInt8).length ≤ 32 := by cases ng <;> simp <;> omega
     rw [← List.append_assoc]
     generalize ((if ng = true then [45] else []) ++ WH : List UInt8) = NW at *
     refine Sm.seq ?_
     refine Sm.seqW ?_
     conv => whnf
     refine hp.load (v := .int .i64 (k : Int)) .d (by rfl) rfl rfl rfl ?_
     conv => whnf
     refine Sm.ofW ?_
     conv => whnf
     by_cases hk : 0 < (k : Int)
     · rw [if_pos hk]
       refine Br.yes (decide_eq_true hk) ?_
       conv => whnf
       refine Om.of _ (str_add ⟨NW.toArray⟩ ⟨#[46]⟩ (by show NW.length + 1 ≤ _; omega)) ?_
       conv => whnf
       refine Om.of _ (str_add ⟨(bs ⟨NW.toArray⟩ ++ bs ⟨#[46]⟩).toArray⟩ ⟨RS.toArray⟩ (by show (NW ++ [46]).length + RS.length ≤ _; simp; omega)) ?_
       conv => whnf
       refine ⟨hp.fr, ?_⟩
       show sv ((NW ++ [46]) ++ RS) = sv (NW ++ ([46] ++ RS))
       rw [List.append_assoc]
     · rw [if_neg hk, List.append_nil]
       refine Br.no (decide_eq_false hk) ?_
       conv => whnf
       refine Sm.seqW ?_
       conv => whnf
       refine Sm.ofW ?_
       conv => whnf
       exact ⟨hp.fr, rfl⟩
end

/- Chapter 2's example; the order of decimals at one scale. No condition. -/
section
variable [Lk]
end

/- What is printed of a decimal with more places. No condition. -/
section
variable [Lk]
theorem np_ge (c S : Nat) : S < np c S := by unfold np; omega
end

/- What is printed is read the same. No condition. -/
section
variable [Lk]
theorem print_len {d : Dc} (h : d.right = true) : (printF d).length ≤ 32 := by
 obtain ⟨a1, a2, a3⟩ := Dc.right_c h
 have hn := np_le a1 (show d.scale.toNat ≤ 9 by omega)
 unfold printF
 rw [h, if_neg (by decide)]
 have e1 : ((pl d.c (np d.c d.scale.toNat)).reverse.take (np d.c d.scale.toNat - d.scale.toNat)).length + ((pl d.c (np d.c d.scale.toNat)).reverse.drop (np d.c d.scale.toNat - d.scale.toNat)).length = np d.c d.scale.toNat := by
  rw [← List.length_append, List.take_append_drop, List.length_reverse, pl_len]
 generalize (pl d.c (np d.c d.scale.toNat)).reverse.take (np d.c d.scale.toNat - d.scale.toNat) = A at *
 generalize (pl d.c (np d.c d.scale.toNat)).reverse.drop (np d.c d.scale.toNat - d.scale.toNat) = B at *
 generalize np d.c d.scale.toNat = n at *
 split <;> split <;> simp <;> omega
theorem isD_iff {x : UInt8} : isD x = true ↔ 48 ≤ x.toNat ∧ x.toNat ≤ 57 := decide_eq_true_iff
theorem idxL_skip {c : Nat} : ∀ (W T : List UInt8) (i : Nat), (∀ x ∈ W, x.toNat ≠ c) → idxL c (W ++ T) i = idxL c T (i + W.length)
 | [], T, i, _ => rfl
 | x :: W, T, i, h => by
   show (match Nat.beq x.toNat c with | true => some i | false => idxL c (W ++ T) (i + 1)) = _
   have hx : Nat.beq x.toNat c = false := by
    have := h x (List.mem_cons_self ..)
    cases hb : Nat.beq x.toNat c with
    | false => rfl
    | true => exact absurd (Nat.eq_of_beq_eq_true hb) this
   rw [hx]
   show idxL c (W ++ T) (i + 1) = _
   rw [idxL_skip W T (i + 1) (fun y hy => h y (List.mem_cons_of_mem _ hy)), List.length_cons]
   congr 1; omega
def txt (ng : Bool) (W : List UInt8) (pt : Bool) (R : List UInt8) : List UInt8 := (if ng = true then [45] else []) ++ (W ++ (if pt = true then [46] ++ R else []))
theorem pl_low (c n : Nat) : pl c (n + 1) = dch c 0 :: pl (c / 10) n := by
 unfold pl
 rw [List.range_succ_eq_map, List.map_cons, List.map_map]
 congr 1
 refine List.map_congr_left fun i _ => ?_
 show UInt8.ofNat (48 + c / 10 ^ (i + 1) % 10) = UInt8.ofNat (48 + c / 10 / 10 ^ i % 10)
 rw [Nat.div_div_eq_div_mul, Nat.pow_succ, Nat.mul_comm (10 ^ i)]
theorem dch_nat (c k : Nat) : (dch c k).toNat = 48 + c / 10 ^ k % 10 := by
 unfold dch
 rw [UInt8.toNat_ofNat']
 have := Nat.mod_lt (c / 10 ^ k) (show 0 < 10 by decide)
 omega
theorem pl_isD {c n : Nat} : ∀ x ∈ pl c n, isD x = true := by
 intro x hx
 unfold pl at hx
 obtain ⟨i, _, rfl⟩ := List.mem_map.1 hx
 rw [isD_iff, dch_nat]
 have := Nat.mod_lt (c / 10 ^ i) (show 0 < 10 by decide)
 omega
theorem valD_pl : ∀ (n c : Nat), valD (pl c n).reverse = c % 10 ^ n
 | 0, c => by simp [pl, valD, Nat.mod_one]
 | n + 1, c => by
   rw [pl_low, List.reverse_cons, valD_snoc, valD_pl n, dch_nat, Nat.pow_zero, Nat.div_one, Nat.pow_succ', Nat.mod_mul]
   omega
theorem np_val (c sc : Nat) : c < 10 ^ np c sc := by
 have h : ¬ np c sc < np c sc := by omega
 rw [np_more] at h
 have hp := p10 (np c sc)
 rcases Nat.lt_or_ge c (10 ^ np c sc) with g | g
 · exact g
 · exact absurd (.inr (Nat.div_pos g hp)) h
theorem print_parts {d : Dc} (h : d.right = true) : ∃ W R : List UInt8, ∃ pt : Bool, W ≠ [] ∧ W.length ≤ 30 ∧ (∀ x ∈ W, isD x = true) ∧ (∀ x ∈ R, isD x = true) ∧ (pt = false → R = []) ∧
  (pt = true → R ≠ [] ∧ R.length ≤ 9) ∧ (R.length : Int) = d.scale ∧ valD (W ++ R) = d.c ∧ printF d = txt d.neg W pt R := by
 obtain ⟨a1, a2, a3⟩ := Dc.right_c h
 obtain ⟨ng, c, sc⟩ := d
 simp only at a1 a2 a3 ⊢
 obtain ⟨k, rfl⟩ : ∃ k : Nat, sc = k := ⟨sc.toNat, by omega⟩
 have hn := np_le a1 (show k ≤ 9 by omega)
 have hg := np_ge c k
 have hv := np_val c k
 refine ⟨(pl c (np c k)).reverse.take (np c k - k), (pl c (np c k)).reverse.drop (np c k - k), decide (0 < (k : Int)), ?_, ?_, ?_, ?_, ?_, ?_, ?_, ?_, ?_⟩
 · intro e
   have := congrArg List.length e
   simp [pl_len] at this; omega
 · simp [pl_len]; omega
 · exact fun x hx => pl_isD x (List.mem_reverse.1 (List.mem_of_mem_take hx))
 · exact fun x hx => pl_isD x (List.mem_reverse.1 (List.mem_of_mem_drop hx))
 · intro e
   have := of_decide_eq_false e
   refine List.drop_eq_nil_of_le ?_
   simp [pl_len]; omega
 · intro e
   have := of_decide_eq_true e
   refine ⟨fun e => ?_, ?_⟩
   · have := congrArg List.length e
     simp [pl_len] at this; omega
   · simp [pl_len]; omega
 · simp [pl_len]; omega
 · rw [List.take_append_drop, valD_pl, Nat.mod_eq_of_lt hv]
 · unfold printF txt
   rw [h, if_neg (by decide)]
   simp only [Int.toNat_natCast, decide_eq_true_eq]
end

/- The document's digits, Neg, Cmp, Add, Sub, Mul, Scaled of decimals. No condition. -/
section
variable [Lk]
end

/- The document's Print. No condition. -/
section
variable [Lk]
end

/- pyxlaw2.text. No condition. -/
section
variable [Lk]
end

/- The document's Read, without a program. No condition. -/
section
variable [Lk]
end

/- The document's Read walked. No condition. -/
section
variable [Lk]
end

/- lex.letter, digit, part, run; the document's digit. No condition. -/
section
variable [Lk]
end

/- Tokens without a program. No condition. -/
section
variable [Lk]
structure Tok where
 kind : Int
 text : List UInt8
 at_ : Nat
def Tok.cells (t : Tok) : List Value := [.int .i64 t.kind, sv t.text, .int .i64 (t.at_ : Int)]
def isS (c : UInt8) : Bool := decide (c = 40) || (decide (c = 41) || (decide (c = 61) || (decide (c = 60) || decide (c = 62))))
end

/- lex.one walked. No condition. -/
section
variable [Lk]
theorem sindexByte_spec (s : St) (l : List UInt8) (c : UInt8) : Cw Tryz.prog 184 [sv l, .int .u8 ((c.toNat : Nat) : Int)] s fun r s' => s' = s ∧ r = .int .i64 (ixI (idxL c.toNat l 0)) := by
 refine Cw.enterS Tryz.func184 rfl rfl ?_
 refine Sm.seqW ?_
 conv => whnf
 refine Sm.seqW ?_
 conv => whnf
 refine (indexByte_spec _ l c).mono ?_
 rintro _ s1 ⟨h1, rfl⟩
 obtain rfl := h1.symm
 conv => whnf
 refine Sm.ofW ?_
 conv => whnf
 exact ⟨rfl, rfl⟩
end

/- lex.Tokens walked. No condition. -/
section
variable [Lk]
end

/- The document's Tokens walked. No condition. -/
section
variable [Lk]
end

/- Tokens in memory; chapter 21's example. No condition. -/
section
variable [Lk]
theorem load_agg {P : Program} {t : TypeId} {fs : Array Field} {i : TypeInfo} (hu : P.underlying t = some (.struct fs)) (hi : P.info? t = some i) {s : St} {b off : Nat} {C cs : List Value} (hr : s.rd b = some C) (hs : sl C off i.size = some cs) :
  evLoad P t (.pointer (some ⟨b, off, none⟩)) s = some (.agg cs.toArray) := by
 unfold evLoad
 simp only [hr, hu, hi, hs]
theorem sl_sub {C cs : List Value} {off n i m : Nat} (h : Go.Ev.sl C off n = some cs) (hi : i + m ≤ n) : Go.Ev.sl C (off + i) m = some ((cs.drop i).take m) := by
 obtain ⟨g1, g2, g3, _⟩ := sl_some h
 have e : (List.drop (off + i) C).take m = (cs.drop i).take m := by
  rw [g2, List.drop_take, List.drop_drop, List.take_take, Nat.min_eq_left (by omega)]
 have hl : cs.length = n := by rw [g2]; simp; omega
 unfold Go.Ev.sl
 simp only [e]
 have : ((cs.drop i).take m).length = m := by simp; omega
 rw [this]; simp
theorem index_slN {P : Program} {t et sz by_ : Nat} {z : Value} (T : SlT P t et sz by_ z) {fs : Array Field} (hu : P.underlying et = some (.struct fs)) {s : St} {κ : Option Nat} {v : Value} {n i : Nat} {cs : List Value} (h : Sl s κ v sz n cs) (k : IntKind) (hi : i < n) :
  ∃ a, evIndexAddr P t v (.int k (i : Int)) = some (.pointer (some a)) ∧ evLoad P et (.pointer (some a)) s = some (.agg ((cs.drop (i * sz)).take sz).toArray) := by
 obtain ⟨j, hi1, hi2, hi3, hi4⟩ := T.hi
 rcases h.ex with ⟨rfl, rfl, rfl, rfl⟩ | ⟨b, off, c, C, rfl, hc, hl, hs, hm⟩
 · omega
 · have hr : s.rd b = some C := by
    rcases hm with ⟨k, _, hm⟩ | ⟨_, hm⟩
    · exact hm.rd
    · exact hm.rd
   have hle : i * sz + sz ≤ n * sz := by
    have : (i + 1) * sz ≤ n * sz := Nat.mul_le_mul_right _ hi
    rw [Nat.add_mul, Nat.one_mul] at this; exact this
   refine ⟨⟨b, off + i * sz, none⟩, ?_, load_agg hu hi1 hr (by rw [hi2]; exact sl_sub hs hle)⟩
   show (match P.underlying t, Value.slice (some ⟨b, off, none⟩) n c, Value.int k (.ofNat i) with
     | some (.slice e), .slice (some a) n _, .int _ (.ofNat i) => match Nat.blt i n, P.info? e with
       | true, some j => some (Value.pointer (some ⟨a.block, a.off + i * j.size, none⟩))
       | _, _ => none
     | some (.array n e), .pointer (some a), .int _ (.ofNat i) => match Nat.blt i n, P.info? e with
       | true, some j => some (Value.pointer (some ⟨a.block, a.off + i * j.size, none⟩))
       | _, _ => none
     | _, _, _ => none) = _
   rw [T.hu]
   simp only [blt_of hi, hi1, hi2]
end

/- Labels: bits, Below, Join, Meet, Right, Of. No condition. -/
section
variable [Lk]
structure Lb where
 set : Nat
 lev : Int
abbrev Lb.cells (a : Lb) : List Value := [.int .u64 (a.set : Int), .int .i64 a.lev]
theorem IL : SlT Tryz.prog 22 3 1 8 (.int .i64 0) := ⟨Tryz.underlying22, ⟨_, rfl, rfl, rfl, rfl⟩, rfl, rfl, by decide, by decide⟩
end

/- Labels, as the document has them. No condition. -/
section
variable [Lk]
theorem shr_u64k {P : Program} {t : TypeId} {cst : Bool} {n k : Nat} (hn : n < 18446744073709551616) (hk : k < 64) {kk : IntKind} : evBin P .shr t cst (.int .u64 (n : Int)) (.int kk (k : Int)) = some (.int .u64 ((n / 2 ^ k : Nat) : Int)) := by
 show (match decide ((k : Int) < 0) with
  | true => none
  | false => some (Value.int .u64 ((n : Int).fdiv (2 ^ (min (k : Int).toNat IntKind.u64.bits))))) = _
 rw [decide_eq_false (by omega)]
 have e : IntKind.u64.bits = 64 := rfl
 simp only [e, Int.toNat_natCast, Nat.min_eq_left (Nat.le_of_lt hk)]
 rw [Int.fdiv_eq_ediv_of_nonneg _ (by exact_mod_cast Nat.zero_le _)]
 norm_cast
end

/- The builder of texts: its memory, what is written to it. No condition. -/
section
variable [Lk]
structure Buf (s : St) (κ : Option Nat) (v : Value) (l : List UInt8) (t : Nat) : Prop where
 ex : (v = .slice none 0 0 ∧ l = [] ∧ κ = none) ∨ ∃ k b, κ = some k ∧ v = .slice (some ⟨b, 0, none⟩) l.length l.length ∧ Blk s k b (byteVals l) 1 ∧ Blt s k (byteVals l) 1 t ∧ l ≠ []
def bufA (κ : Option Nat) (v : Value) (l : List UInt8) (t : Nat) : At where
 foot := fun j => κ = some j
 ok := fun s => Buf s κ v l t
 keep := fun _ _ _ hk hX h => by
  rcases h.ex with g | ⟨k, b, g1, g2, g3, g4⟩
  · exact ⟨.inl g⟩
  · exact ⟨.inr ⟨k, b, g1, g2, hk.blk _ _ _ _ (hX k g1) g3, hk.blt _ _ _ _ (hX k g1) g4.1, g4.2⟩⟩
 lt := fun s wf h j hj => by
  rcases h.ex with g | ⟨k, b, g1, g2, g3, g4⟩
  · rw [g.2.2] at hj; cases hj
  · rw [g1] at hj; injection hj with hj; subst hj; exact g4.1.lt wf
 lo := fun s m h => by
  rcases h.ex with g | ⟨k, b, g1, g2, g3, g4⟩
  · exact ⟨.inl g⟩
  · exact ⟨.inr ⟨k, b, g1, g2, g3.lo m, g4.1.lo m, g4.2⟩⟩
theorem UB : SlT Tryz.prog 59 5 1 1 (.int .u8 0) := ⟨Tryz.underlying59, ⟨_, rfl, rfl, rfl, rfl⟩, rfl, rfl, by decide, by decide⟩
section
variable {X : Nat → Prop} {s0 s : St} {R F G : List At} {P : Program} {t : TypeId} {b off e : Nat} {C : List Value} {v : Value} {i : TypeInfo}
theorem Hp.storeT {K : St → Prop} (h : Hp X s0 R F s) {ty : Nat} (m : Rm (tyA b C e ty) F G) (ho : off < C.length) (hi : P.info? t = some i) (hs : i.size = 1) (hc : v.cells = #[v]) (h1 : v.oneCell' = true)
  (hk : ∀ s', Hp X s0 R (tyA b (C.set off v) e ty :: G) s' → s'.low < s.next → K s') : Om (evStore P t (.pointer (some ⟨b, off, none⟩)) v s) K := by
 have hb : Bty s b C e ty := h.okF _ m.sub.1
 obtain ⟨s', g1, g2, g3, g4⟩ := write_kp (off := off) (vs := [v]) h.wf hb.blk (by simp only [List.length_singleton]; omega)
 have g5 := write_blt hb.blt hb.blk g1
 rw [putAt_one v ho] at g3 g5
 refine .of s' ?_ (hk s' (h.upd m g2 (fun j hj => .inl hj) ⟨g3, g5⟩ (fun j hj => .inl hj)) (write_low h.wf hb.blk g1).1)
 simp only [evStore, hi, hc, hs]
 simpa [h1] using g1
end
theorem noEsc (s : St) (v : Value) {K : Value → St → Prop} (k : K v s) : Cw Tryz.prog 154 [v] s K :=
 ⟨⟨v, s, k, .inr (.inl ⟨rfl, _, Tryz.func154, rfl, rfl⟩)⟩⟩
theorem copyCheck_spec {z : St} (wf : WF z) {p : Nat} {a : Option Addr} {v : Value} (hb : Bty z p [.pointer a, v] 2 158) (ha : a = none ∨ a = some ⟨p, 0, none⟩) :
  Cw Tryz.prog 135 [.pointer (some ⟨p, 0, none⟩)] z fun r s' => Kp (fun j => j = p) z s' ∧ Bty s' p [.pointer (some ⟨p, 0, none⟩), v] 2 158 ∧ True := by
 have hp : Hp (fun j => j = p) z [] [tyA p [.pointer a, v] 2 158] z := ⟨.refl wf, fun x h => by obtain rfl := List.mem_singleton.1 h; exact hb, fun x h => (by cases h), fun x h k hk => by obtain rfl := List.mem_singleton.1 h; exact .inl hk, List.pairwise_singleton _ _, fun x _ r hr => (by cases hr)⟩
 refine Cw.enterS Tryz.func135 rfl rfl ?_
 refine Sm.seqW ?_
 conv => whnf
 (refine hp.loadT .d (v := .pointer a) (by rfl) rfl rfl rfl ?_; conv => whnf)
 rcases ha with rfl | rfl
 · refine Om.of _ (ptr_none Tryz.underlying156) ?_
   conv => whnf
   repeat ((first | refine Br.y1 ?_ | refine Br.n1 ?_); conv => whnf)
   refine Sm.live [0, 6] ?_
   conv => whnf
   refine Sm.ofW ?_
   conv => whnf
   repeat ((first | refine Br.y1 ?_ | refine Br.n1 ?_); conv => whnf)
   have hb2 : Bty z p [.pointer none, v] 2 158 := hp.okF (tyA p [.pointer none, v] 2 158) (by simp)
   refine Om.of _ (to_unsafe Tryz.underlying156 Tryz.underlying204 rfl (by decide) hb2.blk.rd (by show 0 < 2; decide)) ?_
   conv => whnf
   refine noEsc _ _ ?_
   conv => whnf
   refine Om.of _ (of_unsafe Tryz.underlying204 Tryz.underlying156 rfl (by decide) hb2 (by show 2 ≤ 2; decide)) ?_
   conv => whnf
   refine hp.storeT .d (by show 0 < 2; decide) rfl rfl rfl rfl ?_
   clear hp
   intro s hp _
   conv => whnf
   exact ⟨hp.fr, hp.okF _ (List.mem_cons_self ..), trivial⟩
 · refine Om.of _ (ptr_some Tryz.underlying156 _) ?_
   conv => whnf
   repeat ((first | refine Br.y1 ?_ | refine Br.n1 ?_); conv => whnf)
   refine Sm.live [0, 6] ?_
   conv => whnf
   refine Sm.ofW ?_
   conv => whnf
   repeat ((first | refine Br.y1 ?_ | refine Br.n1 ?_); conv => whnf)
   (refine hp.loadT .d (v := .pointer (some ⟨p, 0, none⟩)) (by rfl) rfl rfl rfl ?_; conv => whnf)
   refine Om.of _ (ptr_eq Tryz.underlying156 rfl _) ?_
   conv => whnf
   repeat ((first | refine Br.y1 ?_ | refine Br.n1 ?_); conv => whnf)
   exact ⟨hp.fr, hp.okF _ (List.mem_cons_self ..), trivial⟩
end

/- Itoa of a digit. No condition. -/
section
variable [Lk]
def dgt (n : Nat) : UInt8 := UInt8.ofNat (48 + n)
theorem digs36 : ∀ n, n < 10 → ((([48, 49, 50, 51, 52, 53, 54, 55, 56, 57, 97, 98, 99, 100, 101, 102, 103, 104, 105, 106, 107, 108, 109, 110, 111, 112, 113, 114, 115, 116, 117, 118, 119, 120, 121, 122] : List UInt8).drop n).take (n + 1 - n)) = [dgt n] := by decide +kernel
theorem ismall_spec (s : St) {n : Nat} (hn : n < 10) : Cw Tryz.prog 150 [.int .i64 (n : Int)] s fun r s' => s' = s ∧ r = sv [dgt n] := by
 refine Cw.enterS Tryz.func150 rfl rfl ?_
 refine Sm.seqW ?_
 conv => whnf
 refine Sm.live [0, 2] ?_
 conv => whnf
 refine Sm.seq ?_
 refine Sm.seqW ?_
 conv => whnf
 refine Sm.ofW ?_
 conv => whnf
 refine Br.yes (decide_eq_true (by omega)) ?_
 conv => whnf
 have e : IntKind.i64.wrap ((n : Int) + 1) = ((n + 1 : Nat) : Int) := by rw [wi64 (by omega) (by omega)]; omega
 rw [e]
 refine Om.of _ (str_slice Tryz.underlying9 (l := [48, 49, 50, 51, 52, 53, 54, 55, 56, 57, 97, 98, 99, 100, 101, 102, 103, 104, 105, 106, 107, 108, 109, 110, 111, 112, 113, 114, 115, 116, 117, 118, 119, 120, 121, 122]) .i64 .i64 (some n) (some (n + 1)) (by simp only [Option.getD_some]; omega) (by simp only [Option.getD_some, List.length_cons, List.length_nil]; omega)) ?_
 conv => whnf
 exact ⟨rfl, congrArg sv (digs36 n hn)⟩
end

/- Print of a label. No condition. -/
section
variable [Lk]
section
variable {X : Nat → Prop} {s0 s : St} {R F G : List At} {p : Nat} {κ : Option Nat} {l : List UInt8}
end
end

/- Clone; the errors of Atoi. No condition. -/
section
variable [Lk]
section
variable {X : Nat → Prop} {s0 s : St} {R F G : List At} {P : Program} {t : TypeId} {b : Nat} {C : List Value}
theorem Hp.copyT {K : Value × St → Prop} (h : Hp X s0 R F s) {et by_ ty : Nat} {z : Value} (T : SlT P t et 1 by_ z) (m : Rm (tyA b C 1 ty) F G) (l : List UInt8) (hC : C.length = l.length)
  (hk : ∀ s', Hp X s0 R (tyA b (byteVals l) 1 ty :: G) s' → K (.int .i64 (l.length : Int), s')) : Om (evCopy P t (.slice (some ⟨b, 0, none⟩) l.length l.length) (sv l) s) K := by
 obtain ⟨i, hi1, hi2, hi3, hi4⟩ := T.hi
 have hb : Bty s b C 1 ty := h.okF _ m.sub.1
 obtain ⟨s', g1, g2, g3, g4⟩ := write_kp (off := 0) (vs := byteVals l) h.wf hb.blk (by rw [byteVals_length]; omega)
 have g5 := write_blt hb.blt hb.blk g1
 have e : putAt C 0 (byteVals l) = byteVals l := by
  unfold putAt
  rw [List.take_zero, List.nil_append, Nat.zero_add, byteVals_length, ← hC, List.drop_length, List.append_nil]
 rw [e] at g3 g5
 have hf : firstOf s 1 (Nat.min l.length l.length) (sv l) = some (byteVals l) := by
  show some (byteVals (l.take (Nat.min l.length l.length))) = _
  rw [show Nat.min l.length l.length = l.length from Nat.min_self _, List.take_length]
 have hmin : Nat.min l.length l.length = l.length := Nat.min_self _
 cases hl : byteVals l with
 | nil =>
   have hl0 : l = [] := by
    have := congrArg List.length hl; rw [byteVals_length] at this; simpa using this
   refine .of (.int .i64 (l.length : Int), s) ?_ (hk s ?_)
   · simp only [evCopy, T.hu, hi1, hi2, bs_mk, hf, hl]
     rw [hmin]
   · have hC0 : C = [] := List.length_eq_zero_iff.1 (by rw [hC, hl0]; rfl)
     rw [hl, ← hC0]
     exact h.upd (Y := fun _ => False) m (.refl h.wf) (fun j hj => hj.elim) hb (fun j hj => .inl hj)
 | cons w ws =>
   refine .of (.int .i64 (l.length : Int), s') ?_ (hk s' (h.upd m g2 (fun j hj => .inl hj) ⟨g3, g5⟩ (fun j hj => .inl hj)))
   have h1 := byteVals_one l
   rw [hl] at h1 g1
   simp only [evCopy, T.hu, hi1, hi2, bs_mk, hf, hl, h1, g1]
   rw [hmin]
end
theorem clone_spec {z : St} (wf : WF z) (l : List UInt8) (hl : l.length ≤ 281474976710656) : Cw Tryz.prog 187 [sv l] z fun r s' => K0 z s' ∧ r = sv l := by
 have hp : Hp (fun _ => False) z [] [] z := Hp.start _ wf _ (by simp)
 refine Cw.enterS Tryz.func187 rfl rfl ?_
 refine Sm.seqW ?_
 conv => whnf
 refine Sm.live [0, 2] ?_
 conv => whnf
 refine Sm.seq ?_
 refine Sm.seqW ?_
 conv => whnf
 refine Sm.ofW ?_
 conv => whnf
 have e0 : ((((bs ⟨l.toArray⟩).length : Nat) : Int) == 0) = decide (l = []) := by
  show (((l.length : Nat) : Int) == 0) = _
  rw [Bool.eq_iff_iff, beq_iff_eq, decide_eq_true_iff, ← List.length_eq_zero_iff]; omega
 rw [e0]
 by_cases h0 : l = []
 · refine Br.yes (decide_eq_true h0) ?_
   conv => whnf
   exact ⟨hp.fr, congrArg sv h0.symm⟩
 refine Br.no (decide_eq_false h0) ?_
 conv => whnf
 refine Sm.seqW ?_
 conv => whnf
 refine hp.mksT UB rfl l.length rfl rfl (by omega) ?_
 clear hp
 intro b s hp _
 conv => whnf
 refine Sm.live [0, 3] ?_
 conv => whnf
 refine Sm.seqW ?_
 conv => whnf
 refine hp.copyT UB .d l (by simp) ?_
 clear hp
 intro s hp
 conv => whnf
 refine Sm.live [0, 3] ?_
 conv => whnf
 refine Sm.seqW ?_
 conv => whnf
 obtain ⟨m, hm⟩ : ∃ m, l.length = m + 1 := ⟨l.length - 1, by have := List.length_pos_iff.2 h0; omega⟩
 refine Om.of (.pointer (some ⟨b, 0, none⟩)) (by rw [hm]; rfl) ?_
 conv => whnf
 have hB : Bty s b (byteVals l) 1 5 := hp.okF _ (List.mem_cons_self ..)
 obtain ⟨s', u1, u2⟩ := unsafe_str (it := 3) Tryz.underlying189 (i := _) (rfl : Tryz.prog.info? 5 = some _) rfl hp.wf hB.blk hB.blt h0 (by omega)
 refine Om.of _ u1 ?_
 have g2 : K0 z s' := hp.fr.trans u2 fun j hj => .inr (by
  rcases hp.own _ (List.mem_cons_self ..) j hj with g | g
  · exact g.elim
  · exact g)
 conv => whnf
 refine Sm.ofW ?_
 conv => whnf
 exact ⟨g2, rfl⟩
structure Gs (s : St) : Prop where
 ex : ∃ i j, Lk.gl 4 = some i ∧ Lk.gl 5 = some j ∧ Ro s i [.chan none] 1 ∧ Ro s j [.chan none] 1
theorem Gs.keep {X : Nat → Prop} {s s' : St} (h : Gs s) (k : Kp X s s') : Gs s' := by
 obtain ⟨i, j, h1, h2, h3, h4⟩ := h.ex
 exact ⟨i, j, h1, h2, k.ro _ _ _ h3, k.ro _ _ _ h4⟩
theorem opl_gl {L : En} {g i : Nat} (h : Lk.gl g = some i) : opl L (.global g) = some (.pointer (some ⟨i, 0, none⟩)) := by
 show (match Lk.gl g with
  | some i => some (Value.pointer (some ⟨i, 0, none⟩))
  | none => none) = _
 rw [h]
theorem oplR_gl {l : List Tmp} {L : En} {g i : Nat} (h : Lk.gl g = some i) : oplR l L (.global g) = some (.pointer (some ⟨i, 0, none⟩)) := opl_gl (L := L) h
theorem syntaxError_spec {z : St} (wf : WF z) (hg : Gs z) (f l : List UInt8) (hl : l.length ≤ 281474976710656) : Cw Tryz.prog 166 [sv f, sv l] z fun r s' => K0 z s' ∧ True := by
 obtain ⟨i, j, h1, h2, h3, h4⟩ := hg.ex
 have hp : Hp (fun _ => False) z [roA i [.chan none] 1, roA j [.chan none] 1] [] z := Hp.start _ wf _ (by simp; exact ⟨h3, h4⟩)
 refine Cw.enterS Tryz.func166 rfl rfl ?_
 refine Sm.seqW ?_
 conv => whnf
 refine Sm.live [0, 1] ?_
 conv => whnf
 refine Sm.seqW ?_
 conv => whnf
 refine ⟨[0, 0, 2, 0, 15, 31, 63], by decide +kernel, by decide +kernel, ?_⟩
 conv => whnf
 refine hp.rst.call (clone_spec hp.rst.wf l hl) ?_
 rintro _ s1 rfl h1 k1
 conv => whnf
 refine hp.dkN h1 k1 ?_
 clear hp h1 k1
 intro s hp
 conv => whnf
 rw [oplR_gl h1]
 conv => whnf
 (refine hp.loadR (by first | exact HasR.here) (v := .chan none) (by rfl) rfl rfl rfl ?_; conv => whnf)
 refine hp.rst.var (cs := [sv f, sv l, .chan none]) (e := 3) rfl rfl ?_
 intro p s9 h9 k9
 conv => whnf
 refine hp.dkN h9 k9 ?_
 clear hp h9 k9
 intro s hp
 conv => whnf
 refine Sm.live [4] ?_
 conv => whnf
 refine Sm.ofW ?_
 conv => whnf
 exact ⟨hp.fr, trivial⟩
theorem rangeError_spec {z : St} (wf : WF z) (hg : Gs z) (f l : List UInt8) (hl : l.length ≤ 281474976710656) : Cw Tryz.prog 167 [sv f, sv l] z fun r s' => K0 z s' ∧ True := by
 obtain ⟨i, j, h1, h2, h3, h4⟩ := hg.ex
 have hp : Hp (fun _ => False) z [roA i [.chan none] 1, roA j [.chan none] 1] [] z := Hp.start _ wf _ (by simp; exact ⟨h3, h4⟩)
 refine Cw.enterS Tryz.func167 rfl rfl ?_
 refine Sm.seqW ?_
 conv => whnf
 refine Sm.live [0, 1] ?_
 conv => whnf
 refine Sm.seqW ?_
 conv => whnf
 refine ⟨[0, 0, 2, 0, 15, 31, 63], by decide +kernel, by decide +kernel, ?_⟩
 conv => whnf
 refine hp.rst.call (clone_spec hp.rst.wf l hl) ?_
 rintro _ s1 rfl h1 k1
 conv => whnf
 refine hp.dkN h1 k1 ?_
 clear hp h1 k1
 intro s hp
 conv => whnf
 rw [oplR_gl h2]
 conv => whnf
 (refine hp.loadR (by exact HasR.there HasR.here) (v := .chan none) (by rfl) rfl rfl rfl ?_; conv => whnf)
 refine hp.rst.var (cs := [sv f, sv l, .chan none]) (e := 3) rfl rfl ?_
 intro p s9 h9 k9
 conv => whnf
 refine hp.dkN h9 k9 ?_
 clear hp h9 k9
 intro s hp
 conv => whnf
 refine Sm.live [4] ?_
 conv => whnf
 refine Sm.ofW ?_
 conv => whnf
 exact ⟨hp.fr, trivial⟩
def erV (k : Int) : Value := .iface 213 (.int .i64 k)
end

/- Numbers of texts: ParseUint, ParseInt. No condition. -/
section
variable [Lk]
theorem ilower_spec (s : St) (c : UInt8) : Cw Tryz.prog 193 [.int .u8 ((c.toNat : Nat) : Int)] s fun r s' => s' = s ∧ ∃ d : Int, r = .int .u8 d := by
 refine Cw.enterS Tryz.func193 rfl rfl ?_
 refine Sm.seqW ?_
 conv => whnf
 refine Sm.seqW ?_
 conv => whnf
 refine Sm.ofW ?_
 conv => whnf
 exact ⟨rfl, _, rfl⟩
theorem u64_rng (x : Int) : 0 ≤ IntKind.u64.wrap x ∧ IntKind.u64.wrap x < 18446744073709551616 := by rw [wrap_u64i]; omega
structure NE (lo hi : Int) (k : IntKind) (r : Value) : Prop where
 ex : ∃ (n : Int) (e : Value), r = .tuple #[.int k n, e] ∧ lo ≤ n ∧ n < hi ∧ (e = .nilIface ∨ e = erV 1 ∨ e = erV 2)
theorem parseUint_spec {z : St} (wf : WF z) (l : List UInt8) (hl : l.length ≤ 281474976710656) :
  Cw Tryz.prog 186 [sv l, .int .i64 10, .int .i64 0] z fun r s' => K0 z s' ∧ NE 0 18446744073709551616 .u64 r := by
 have hp : Hp (fun _ => False) z [] [] z := Hp.start _ wf _ (by simp)
 refine Cw.enterS Tryz.func186 rfl rfl ?_
 refine Sm.seqW ?_
 conv => whnf
 refine Sm.live [0, 1, 2, 6, 7] ?_
 conv => whnf
 refine Sm.seq ?_
 refine Sm.seqW ?_
 conv => whnf
 refine Om.of _ (str_eq ⟨l.toArray⟩ _) ?_
 conv => whnf
 repeat ((first | refine Br.y1 ?_ | refine Br.n1 ?_); conv => whnf)
 refine Sm.ofW ?_
 conv => whnf
 have e0 : (bs ⟨l.toArray⟩ == bs { data := #[] }) = decide (l = []) := by
  show (l == ([] : List UInt8)) = _
  rw [Bool.eq_iff_iff, beq_iff_eq, decide_eq_true_iff]
 rw [e0]
 by_cases h0 : l = []
 · refine Br.yes (decide_eq_true h0) ?_
   conv => whnf
   exact ⟨hp.fr, ⟨_, _, rfl, by decide, by decide, .inr (.inr rfl)⟩⟩
 refine Br.no (decide_eq_false h0) ?_
 conv => whnf
 refine Sm.seqW ?_
 conv => whnf
 refine Sm.live [0, 1, 2, 8] ?_
 conv => whnf
 refine Sm.seqW ?_
 conv => whnf
 refine Sm.live [0, 1, 2, 8, 9] ?_
 conv => whnf
 refine Sm.seq ?_
 refine Sm.block ?_
 refine Sm.seqW ?_
 conv => whnf
 repeat ((first | refine Br.y1 ?_ | refine Br.n1 ?_); conv => whnf)
 refine Sm.ofW ?_
 conv => whnf
 repeat ((first | refine Br.y1 ?_ | refine Br.n1 ?_); conv => whnf)
 refine Sm.live [0, 1, 2, 8, 9] ?_
 conv => whnf
 refine Sm.seq ?_
 refine Sm.seqW ?_
 conv => whnf
 repeat ((first | refine Br.y1 ?_ | refine Br.n1 ?_); conv => whnf)
 refine Sm.ofW ?_
 conv => whnf
 repeat ((first | refine Br.y1 ?_ | refine Br.n1 ?_); conv => whnf)
 refine Sm.live [0, 1, 2, 8, 9] ?_
 conv => whnf
 refine Sm.seqW ?_
 conv => whnf
 refine Sm.live [0, 1, 2, 8, 9, 10] ?_
 conv => whnf
 refine Sm.seq ?_
 refine Sm.seqW ?_
 conv => whnf
 refine Sm.block ?_
 refine Sm.seqW ?_
 conv => whnf
 repeat ((first | refine Br.y1 ?_ | refine Br.n1 ?_); conv => whnf)
 refine Sm.ofW ?_
 conv => whnf
 repeat ((first | refine Br.y1 ?_ | refine Br.n1 ?_); conv => whnf)
 refine Sm.live [0, 1, 2, 8, 9, 10] ?_
 conv => whnf
 refine Sm.seqW ?_
 conv => whnf
 refine Om.of (.int .u64 0) (by kernel_rfl) ?_
 conv => whnf
 refine Sm.live [0, 1, 2, 8, 9, 10, 11] ?_
 conv => whnf
 refine Sm.seqW ?_
 conv => whnf
 refine Sm.live [0, 1, 2, 8, 9, 10, 11, 12] ?_
 conv => whnf
 refine Sm.seqW ?_
 conv => whnf
 refine Sm.live [0, 1, 2, 8, 9, 10, 11, 12, 13] ?_
 conv => whnf
 refine Sm.seq ?_
 refine Sm.seqW ?_
 conv => whnf
 refine hp.bytesOf Tryz.underlying9 Tryz.underlying59 Tryz.underlying5 ⟨l.toArray⟩ ?_
 clear hp
 intro b s hp _
 conv => whnf
 refine Sm.live [1, 8, 9, 10, 11, 12, 13, 99, 100, 101] ?_
 conv => whnf
 refine Sm.block ?_
 refine Sm.loop ?_
 refine Lp.ofS (α := Nat × Int) (fun x => [(1, .int .i64 10), (8, .bool false), (9, sv l), (10, .int .u64 1844674407370955162), (11, .int .u64 18446744073709551615), (12, .bool false), (13, .int .u64 x.2), (99, .slice (some ⟨b, 0, none⟩) l.length l.length), (100, .int .i64 ((l.length : Nat) : Int)), (101, .int .i64 (x.1 : Int))])
  (fun x s' => x.1 ≤ l.length ∧ (0 ≤ x.2 ∧ x.2 < 18446744073709551616) ∧ Hp (fun _ => False) z [] [blkA b b (byteVals l) 1] s') (fun x => l.length - x.1) ?_ (0, 0) (subK_ok (by refine ⟨rfl, rfl, rfl, rfl, rfl, rfl, rfl, rfl, rfl, rfl, trivial⟩)) ⟨Nat.zero_le _, ⟨Int.le_refl _, by decide⟩, hp⟩
 clear hp
 rintro ⟨i, n⟩ s ⟨hi, ⟨hn0, hn1⟩, hp⟩
 have hi : i ≤ l.length := hi
 have hn0 : 0 ≤ n := hn0
 have hn1 : n < 18446744073709551616 := hn1
 refine Sm.seqW ?_
 conv => whnf
 refine Sm.live [1, 8, 9, 10, 11, 12, 13, 99, 100, 101, 102] ?_
 conv => whnf
 refine Sm.seq ?_
 refine Sm.ofW ?_
 conv => whnf
 refine Br.mk (fun hq => ?_) (fun hq => ?_)
 · have hq : i < l.length := by have : (i : Int) < (l.length : Int) := of_decide_eq_true hq; omega
   obtain ⟨p, y, e1, e2, e3, _, rfl⟩ := index_sl UB Tryz.underlying5 rfl (hp.blkSl (n := l.length) .d (by rw [byteVals_length]; omega)) .i64 hq
   have e4 : y = .int .u8 ((l[i].toNat : Nat) : Int) := by
    unfold byteVals at e2
    rw [List.getElem?_map, List.getElem?_eq_getElem hq] at e2
    injection e2 with e2; exact e2.symm
   subst e4
   generalize hc : l[i] = c at *
   conv => whnf
   refine Sm.seq ?_
   refine Sm.block ?_
   refine Sm.seqW ?_
   conv => whnf
   refine Om.of _ (e1) ?_
   conv => whnf
   refine Om.of _ (e3) ?_
   conv => whnf
   refine Sm.live [1, 8, 9, 10, 11, 12, 13, 99, 100, 101, 15] ?_
   conv => whnf
   refine Sm.seqW ?_
   conv => whnf
   refine Sm.live [1, 8, 9, 10, 11, 12, 13, 99, 100, 101, 15, 16] ?_
   conv => whnf
   refine Sm.seq ?_
   refine Sm.block ?_
   refine Sm.seqC (fun e L' s' => e = .normal ∧ s' = s ∧ Sub [(1, .int .i64 10), (8, .bool false), (9, sv l), (10, .int .u64 1844674407370955162), (11, .int .u64 18446744073709551615), (12, .bool false), (13, .int .u64 n), (99, .slice (some ⟨b, 0, none⟩) l.length l.length), (100, .int .i64 ((l.length : Nat) : Int)), (101, .int .i64 (i : Int)), (15, .int .u8 ((c.toNat : Nat) : Int)), (106, .bool false)] L') ?_ ?_
   · conv => whnf
     repeat' (first | (refine Br.yes (by first | with_reducible rfl | with_reducible assumption) ?_; conv => whnf) | (refine Br.no (by first | with_reducible rfl | with_reducible assumption) ?_; conv => whnf) | (refine Br.mk (fun hq => ?_) (fun hq => ?_) <;> conv => whnf))
     all_goals exact ⟨rfl, rfl, subK_ok ⟨rfl, rfl, rfl, rfl, rfl, rfl, rfl, rfl, rfl, rfl, rfl, rfl, trivial⟩⟩
   rintro e L' s' ⟨rfl, rfl, hs⟩
   refine Sm.weak _ hs ?_
   clear hs
   refine Sm.ofW ?_
   conv => whnf
   repeat' (first
    | (refine Br.yes (by first | with_reducible rfl | with_reducible assumption) ?_; conv => whnf)
    | (refine Br.no (by first | with_reducible rfl | with_reducible assumption) ?_; conv => whnf)
    | (refine (ilower_spec _ c).mono ?_; rintro _ s1 ⟨h1, d, rfl⟩; obtain rfl := h1.symm; clear h1; conv => whnf)
    | (refine Br.mk (fun hq => ?_) (fun hq => ?_) <;> conv => whnf))
   all_goals first
    | exact ⟨hp.fr, ⟨_, _, rfl, by decide, by decide, .inr (.inr rfl)⟩⟩
    | skip
   all_goals
    refine Sm.live [1, 8, 9, 10, 11, 12, 13, 99, 100, 101, 16] ?_
    conv => whnf
    refine Sm.ofW ?_
    conv => whnf
    repeat' (first | (refine Br.yes (by first | with_reducible rfl | with_reducible assumption) ?_; conv => whnf) | (refine Br.no (by first | with_reducible rfl | with_reducible assumption) ?_; conv => whnf) | (refine Br.mk (fun hq => ?_) (fun hq => ?_) <;> conv => whnf))
   all_goals first
    | exact ⟨hp.fr, ⟨_, _, rfl, by decide, by decide, .inr (.inr rfl)⟩⟩
    | exact ⟨hp.fr, ⟨_, _, rfl, by decide, by decide, .inr (.inl rfl)⟩⟩
    | skip
   all_goals
    refine Sm.ofW ?_
    conv => whnf
    exact ⟨(i + 1, _), by (show l.length - (i + 1) < l.length - i); omega, subK_ok (by refine ⟨rfl, rfl, rfl, rfl, rfl, rfl, rfl, rfl, rfl, congrArg (fun x => some (Value.int .i64 x)) (show IntKind.i64.wrap ((i : Int) + 1) = ((i + 1 : Nat) : Int) by rw [wi64 (by omega) (by omega)]; omega), trivial⟩), by (show i + 1 ≤ l.length); omega, u64_rng _, hp⟩
 · conv => whnf
   refine Sm.ofW ?_
   conv => whnf
   repeat ((first | refine Br.y1 ?_ | refine Br.n1 ?_); conv => whnf)
   exact ⟨hp.fr, ⟨_, _, rfl, hn0, hn1, .inl rfl⟩⟩
end

/- Numbers of texts: ParseInt. No condition. -/
section
variable [Lk]
theorem i64_rng (x : Int) : -9223372036854775808 ≤ IntKind.i64.wrap x ∧ IntKind.i64.wrap x < 9223372036854775808 := by rw [wrap_i64i]; split <;> omega
theorem parseInt_spec {z : St} (wf : WF z) (l : List UInt8) (hl : l.length ≤ 281474976710656) :
  Cw Tryz.prog 165 [sv l, .int .i64 10, .int .i64 0] z fun r s' => K0 z s' ∧ NE (-9223372036854775808) 9223372036854775808 .i64 r := by
 have hp : Hp (fun _ => False) z [] [] z := Hp.start _ wf _ (by simp)
 refine Cw.enterS Tryz.func165 rfl rfl ?_
 refine Sm.seqW ?_
 conv => whnf
 refine Sm.live [0, 1, 2, 6, 7] ?_
 conv => whnf
 refine Sm.seq ?_
 refine Sm.seqW ?_
 conv => whnf
 refine Om.of _ (str_eq ⟨l.toArray⟩ _) ?_
 conv => whnf
 repeat ((first | refine Br.y1 ?_ | refine Br.n1 ?_); conv => whnf)
 refine Sm.ofW ?_
 conv => whnf
 have e0 : (bs ⟨l.toArray⟩ == bs { data := #[] }) = decide (l = []) := by
  show (l == ([] : List UInt8)) = _
  rw [Bool.eq_iff_iff, beq_iff_eq, decide_eq_true_iff]
 rw [e0]
 by_cases h0 : l = []
 · refine Br.yes (decide_eq_true h0) ?_
   conv => whnf
   exact ⟨hp.fr, ⟨_, _, rfl, by decide, by decide, .inr (.inr rfl)⟩⟩
 refine Br.no (decide_eq_false h0) ?_
 conv => whnf
 have hpos : 0 < l.length := List.length_pos_iff.2 h0
 refine Sm.seqW ?_
 conv => whnf
 refine Sm.live [0, 1, 2, 6, 7, 8] ?_
 conv => whnf
 refine Sm.seq ?_
 refine Sm.seqW ?_
 conv => whnf
 refine Om.of _ (str_index Tryz.underlying9 (l := l) (i := 0) hpos .i64) ?_
 conv => whnf
 refine Sm.live [0, 1, 2, 6, 7, 8, 16] ?_
 conv => whnf
 refine Sm.mono (Q := fun e L' s' => e = .normal ∧ s' = z ∧ ∃ (l' : List UInt8) (B : Bool), l'.length ≤ l.length ∧ Sub [(0, sv l'), (1, .int .i64 10), (2, .int .i64 0), (8, .bool B)] L') ?_ ?_
 · refine Sm.block ?_
   refine Sm.ofW ?_
   conv => whnf
   repeat' (first | (refine Br.yes (by first | with_reducible rfl | with_reducible assumption) ?_; conv => whnf) | (refine Br.no (by first | with_reducible rfl | with_reducible assumption) ?_; conv => whnf) | (refine Om.of _ (str_drop Tryz.underlying9 (l := l) .i64 (j := 1) hpos) ?_; conv => whnf) | (refine Br.mk (fun hq => ?_) (fun hq => ?_) <;> conv => whnf))
   all_goals exact ⟨rfl, rfl, _, _, by first | exact Nat.le_refl _ | (rw [List.length_drop]; omega), subK_ok ⟨rfl, rfl, rfl, rfl, trivial⟩⟩
 rintro e L' s' ⟨rfl, rfl, l', B, hl', hs⟩
 refine Sm.weak _ hs ?_
 clear hs
 refine Sm.seqW ?_
 conv => whnf
 refine Sm.live [0, 1, 2, 8, 9] ?_
 conv => whnf
 refine Sm.seqW ?_
 conv => whnf
 refine hp.call (parseUint_spec hp.wf l' (by omega)) ?_
 clear hp
 rintro _ s ⟨n, e, rfl, h1, h2, he⟩ hp _
 conv => whnf
 refine Sm.live [2, 7, 8, 9] ?_
 conv => whnf
 rcases he with rfl | rfl | rfl
 · refine Sm.seq ?_
   refine Sm.seqW ?_
   conv => whnf
   refine Om.of (.bool false) (by kernel_rfl) ?_
   conv => whnf
   repeat ((first | refine Br.y1 ?_ | refine Br.n1 ?_); conv => whnf)
   refine Sm.ofW ?_
   conv => whnf
   repeat ((first | refine Br.y1 ?_ | refine Br.n1 ?_); conv => whnf)
   refine Sm.live [2, 8, 9] ?_
   conv => whnf
   refine Sm.seq ?_
   refine Sm.seqW ?_
   conv => whnf
   repeat ((first | refine Br.y1 ?_ | refine Br.n1 ?_); conv => whnf)
   refine Sm.ofW ?_
   conv => whnf
   repeat ((first | refine Br.y1 ?_ | refine Br.n1 ?_); conv => whnf)
   refine Sm.live [2, 8, 9] ?_
   conv => whnf
   refine Sm.seqW ?_
   conv => whnf
   refine Om.of (.int .u64 9223372036854775808) (by kernel_rfl) ?_
   conv => whnf
   refine Sm.live [8, 9, 10] ?_
   conv => whnf
   cases B
   all_goals
    refine Sm.ofW ?_
    conv => whnf
    repeat' (first | (refine Br.yes (by first | with_reducible rfl | with_reducible assumption) ?_; conv => whnf) | (refine Br.no (by first | with_reducible rfl | with_reducible assumption) ?_; conv => whnf) | (refine Br.mk (fun hq => ?_) (fun hq => ?_) <;> conv => whnf))
   all_goals exact ⟨hp.fr, ⟨_, _, rfl, (i64_rng _).1, (i64_rng _).2, by first | exact .inl rfl | exact .inr (.inl rfl)⟩⟩
 · refine Sm.seq ?_
   refine Sm.seqW ?_
   conv => whnf
   refine Om.of (.bool true) (by kernel_rfl) ?_
   conv => whnf
   repeat ((first | refine Br.y1 ?_ | refine Br.n1 ?_); conv => whnf)
   refine Om.of (.bool false) (by kernel_rfl) ?_
   conv => whnf
   repeat ((first | refine Br.y1 ?_ | refine Br.n1 ?_); conv => whnf)
   refine Sm.ofW ?_
   conv => whnf
   repeat ((first | refine Br.y1 ?_ | refine Br.n1 ?_); conv => whnf)
   refine Sm.live [2, 8, 9] ?_
   conv => whnf
   refine Sm.seq ?_
   refine Sm.seqW ?_
   conv => whnf
   repeat ((first | refine Br.y1 ?_ | refine Br.n1 ?_); conv => whnf)
   refine Sm.ofW ?_
   conv => whnf
   repeat ((first | refine Br.y1 ?_ | refine Br.n1 ?_); conv => whnf)
   refine Sm.live [2, 8, 9] ?_
   conv => whnf
   refine Sm.seqW ?_
   conv => whnf
   refine Om.of (.int .u64 9223372036854775808) (by kernel_rfl) ?_
   conv => whnf
   refine Sm.live [8, 9, 10] ?_
   conv => whnf
   cases B
   all_goals
    refine Sm.ofW ?_
    conv => whnf
    repeat' (first | (refine Br.yes (by first | with_reducible rfl | with_reducible assumption) ?_; conv => whnf) | (refine Br.no (by first | with_reducible rfl | with_reducible assumption) ?_; conv => whnf) | (refine Br.mk (fun hq => ?_) (fun hq => ?_) <;> conv => whnf))
   all_goals exact ⟨hp.fr, ⟨_, _, rfl, (i64_rng _).1, (i64_rng _).2, by first | exact .inl rfl | exact .inr (.inl rfl)⟩⟩
 · refine Sm.seq ?_
   refine Sm.seqW ?_
   conv => whnf
   refine Om.of (.bool true) (by kernel_rfl) ?_
   conv => whnf
   repeat ((first | refine Br.y1 ?_ | refine Br.n1 ?_); conv => whnf)
   refine Om.of (.bool true) (by kernel_rfl) ?_
   conv => whnf
   repeat ((first | refine Br.y1 ?_ | refine Br.n1 ?_); conv => whnf)
   refine Sm.ofW ?_
   conv => whnf
   repeat ((first | refine Br.y1 ?_ | refine Br.n1 ?_); conv => whnf)
   exact ⟨hp.fr, ⟨_, _, rfl, by decide, by decide, .inr (.inr rfl)⟩⟩
end

/- Numbers of texts: Atoi. No condition. -/
section
variable [Lk]
theorem dgt_sub : ∀ k, k < 10 → IntKind.u8.wrap (((dgt k).toNat : Int) - 48) = (k : Int) := by decide +kernel
theorem dgt_sign : ∀ k, k < 10 → (dgt k).toNat ≠ 45 ∧ (dgt k).toNat ≠ 43 := by decide +kernel
end
end Go.Ev
