/- Several texts in one: what the law's text leans on, one behind the other. No condition but those that each theorem names. -/
import Derived.Test.YtmhfkejbahacoaaGreatDoorGViewHolds1
import Derived.Test.YtmhfkejbahacoaaGreatDoorKViewHoldsS6
/- Four words: dec.plus, dec.less. No condition. -/
noncomputable section
namespace Go.Ev
open Go.Proofs
variable [Lk]
set_option linter.unusedSectionVars false
set_option linter.unusedVariables false
set_option maxRecDepth 100000

theorem compl_u64 {x : Nat} (h : x < w64) : IntKind.u64.wrap (((BitVec.ofInt IntKind.u64.bits (if IntKind.u64.signed = true then -1 else IntKind.u64.max) ^^^ BitVec.ofInt IntKind.u64.bits (x : Int)).toNat : Nat) : Int) = ((w64 - 1 - x : Nat) : Int) := by
  have e : IntKind.u64.bits = 64 := rfl
  have e2 : (if IntKind.u64.signed = true then -1 else IntKind.u64.max) = ((18446744073709551615 : Nat) : Int) := rfl
  rw [e, e2, bv_nat, bv_nat]
  have e3 : BitVec.ofNat 64 18446744073709551615 ^^^ BitVec.ofNat 64 x = ~~~ BitVec.ofNat 64 x := by
    rw [show BitVec.ofNat 64 18446744073709551615 = BitVec.allOnes 64 by decide, BitVec.allOnes_xor]
  rw [e3, wrap_u64, BitVec.toNat_not, BitVec.toNat_ofNat, Nat.mod_eq_of_lt (show x < 2 ^ 64 from h)]
  simp only [w64] at *
  omega
theorem w4_parts {h l : Nat} (hl : l < w128) : W4 (h * w128 + l) = A4 (l % w64) (l / w64) (h % w64) (h / w64) := by
  have e : (h * w128 + l) % w64 = l % w64 ∧ (h * w128 + l) / w64 % w64 = l / w64 ∧ (h * w128 + l) / w128 % w64 = h % w64 ∧ (h * w128 + l) / w192 = h / w64 := by
    simp only [w64, w128, w192] at *; omega
  unfold W4
  rw [e.1, e.2.1, e.2.2.1, e.2.2.2]
theorem words_of2 {x y : Nat} (hx : x < w64) (hy : y < w64) : A2 x y = W2 (x + w64 * y) := by
  have e : (x + w64 * y) % w64 = x ∧ (x + w64 * y) / w64 = y := by simp only [w64] at *; omega
  unfold W2
  rw [e.1, e.2]
theorem lSub_sub {z : St} (wf : WF z) {a b c : Nat} (ha : a < w128) (hb : b < w128) (h : b ≤ a) (hc : c = a - b) : Cw Tryz.prog 116 [W2 a, W2 b] z fun r s' => K0 z s' ∧ r = .tuple #[W2 c, .bool true] := by
  subst hc; exact lSub_ok wf ha hb h
theorem lAdd_add {z : St} (wf : WF z) {a b c : Nat} (ha : a < w128) (hb : b < w128) (hc : c = a + b) (h : c < w128) : Cw Tryz.prog 77 [W2 a, W2 b] z fun r s' => K0 z s' ∧ r = .tuple #[W2 c, .bool true] := by
  subst hc; exact lAdd_ok wf ha hb h
theorem lSub_no {z : St} (wf : WF z) {a b : Nat} (ha : a < w128) (hb : b < w128) (h : a < b) : Cw Tryz.prog 116 [W2 a, W2 b] z fun r s' => K0 z s' ∧ r = .tuple #[W2 0, .bool false] :=
  (lSub_spec wf ha hb).mono fun r s' ⟨h1, h2⟩ => ⟨h1, h2.trans (if_neg (by omega))⟩
theorem one_lt : 1 < w128 := by decide
theorem dplus_spec {z : St} (wf : WF z) {a b : Nat} (ha : a < w256 / 4) (hb : b < w256 / 4) :
    Cw Tryz.prog 66 [W4 a, W4 b] z fun r s' => K0 z s' ∧ r = W4 (a + b) := by
  have hp : Hp (fun _ => False) z [] [] z := Hp.start _ wf _ (by simp)
  have a1 : a < w256 := by simp only [w256] at *; omega
  have b1 : b < w256 := by simp only [w256] at *; omega
  obtain ⟨q, hq⟩ : ∃ q, q = a / w128 := ⟨_, rfl⟩
  obtain ⟨p, hP⟩ : ∃ p, p = a % w128 := ⟨_, rfl⟩
  obtain ⟨t, ht⟩ : ∃ q, q = b / w128 := ⟨_, rfl⟩
  obtain ⟨r, hr⟩ : ∃ p, p = b % w128 := ⟨_, rfl⟩
  have aq : q < w128 / 4 := by simp only [w128, w256] at *; omega
  have bq : t < w128 / 4 := by simp only [w128, w256] at *; omega
  have ar : p < w128 := hP ▸ Nat.mod_lt _ (by decide)
  have br : r < w128 := hr ▸ Nat.mod_lt _ (by decide)
  have hab : a + b = q * w128 + p + (t * w128 + r) := by simp only [w128] at *; omega
  have hfin : ∀ h l : Nat, l < w128 → h * w128 + l = a + b → A4 (l % w64) (l / w64) (h % w64) (h / w64) = W4 (a + b) := fun h l hl e => by rw [← e, w4_parts hl]
  refine Cw.enterS Tryz.func66 rfl rfl ?_
  refine Sm.seqW ?_
  conv => whnf
  refine hp.var (cs := C4 (a % w64) (a / w64 % w64) (a / w128 % w64) (a / w192)) (e := 1) rfl rfl ?_
  clear hp
  intro p2 s hp _
  conv => whnf
  refine hp.var (cs := C4 (b % w64) (b / w64 % w64) (b / w128 % w64) (b / w192)) (e := 1) rfl rfl ?_
  clear hp
  intro p3 s hp _
  conv => whnf
  refine hp.alloc (cs := C4 0 0 0 0) (e := 1) rfl rfl rfl rfl rfl ?_
  clear hp
  intro p4 s hp _
  conv => whnf
  refine Sm.live [2, 3, 4] ?_
  conv => whnf
  refine Sm.seqW ?_
  conv => whnf
  refine hp.loadA (l := C4 (a % w64) (a / w64 % w64) (a / w128 % w64) (a / w192)) (by repeat (first | exact Has.here | apply Has.there | (apply Has.swap; repeat (first | exact HasR.here | apply HasR.there)))) rfl (by rfl) rfl rfl ?_
  conv => whnf
  refine hp.call (dhalves_spec hp.wf a1) ?_
  clear hp
  rintro _ s rfl hp _
  conv => whnf
  rw [← hq, ← hP]
  refine hp.alloc (cs := C2 0 0) (e := 1) rfl rfl rfl rfl rfl ?_
  clear hp
  intro p5 s hp _
  conv => whnf
  refine hp.alloc (cs := C2 0 0) (e := 1) rfl rfl rfl rfl rfl ?_
  clear hp
  intro p6 s hp _
  conv => whnf
  refine hp.storeW (vs := C2 (p % w64) (p / w64)) rfl (by repeat (first | exact Rm.here | apply Rm.there)) (by first | exact C2_same _ _ _ _ | exact C4_same _ _ _ _ _ _ _ _ | exact Dc_same _ _ | rfl) rfl rfl rfl ?_
  clear hp
  intro s hp _
  conv => whnf
  refine hp.storeW (vs := C2 (q % w64) (q / w64)) rfl (by repeat (first | exact Rm.here | apply Rm.there)) (by first | exact C2_same _ _ _ _ | exact C4_same _ _ _ _ _ _ _ _ | exact Dc_same _ _ | rfl) rfl rfl rfl ?_
  clear hp
  intro s hp _
  conv => whnf
  refine Sm.live [3, 4, 5, 6] ?_
  conv => whnf
  refine Sm.seqW ?_
  conv => whnf
  refine hp.loadA (l := C4 (b % w64) (b / w64 % w64) (b / w128 % w64) (b / w192)) (by repeat (first | exact Has.here | apply Has.there | (apply Has.swap; repeat (first | exact HasR.here | apply HasR.there)))) rfl (by rfl) rfl rfl ?_
  conv => whnf
  refine hp.call (dhalves_spec hp.wf b1) ?_
  clear hp
  rintro _ s rfl hp _
  conv => whnf
  rw [← ht, ← hr]
  refine hp.alloc (cs := C2 0 0) (e := 1) rfl rfl rfl rfl rfl ?_
  clear hp
  intro p7 s hp _
  conv => whnf
  refine hp.alloc (cs := C2 0 0) (e := 1) rfl rfl rfl rfl rfl ?_
  clear hp
  intro p8 s hp _
  conv => whnf
  refine hp.storeW (vs := C2 (r % w64) (r / w64)) rfl (by repeat (first | exact Rm.here | apply Rm.there)) (by first | exact C2_same _ _ _ _ | exact C4_same _ _ _ _ _ _ _ _ | exact Dc_same _ _ | rfl) rfl rfl rfl ?_
  clear hp
  intro s hp _
  conv => whnf
  refine hp.storeW (vs := C2 (t % w64) (t / w64)) rfl (by repeat (first | exact Rm.here | apply Rm.there)) (by first | exact C2_same _ _ _ _ | exact C4_same _ _ _ _ _ _ _ _ | exact Dc_same _ _ | rfl) rfl rfl rfl ?_
  clear hp
  intro s hp _
  conv => whnf
  refine Sm.live [4, 5, 6, 7, 8] ?_
  conv => whnf
  refine Sm.seqW ?_
  conv => whnf
  refine hp.loadA (l := C2 (q % w64) (q / w64)) (by repeat (first | exact Has.here | apply Has.there | (apply Has.swap; repeat (first | exact HasR.here | apply HasR.there)))) rfl (by rfl) rfl rfl ?_
  conv => whnf
  refine hp.loadA (l := C2 (t % w64) (t / w64)) (by repeat (first | exact Has.here | apply Has.there | (apply Has.swap; repeat (first | exact HasR.here | apply HasR.there)))) rfl (by rfl) rfl rfl ?_
  conv => whnf
  refine hp.call (lAdd_add hp.wf (a := q) (b := t) (c := q + t) (by simp only [w128] at *; omega) (by simp only [w128] at *; omega) rfl (by simp only [w128] at *; omega)) ?_
  clear hp
  rintro _ s rfl hp _
  conv => whnf
  refine hp.alloc (cs := C2 0 0) (e := 1) rfl rfl rfl rfl rfl ?_
  clear hp
  intro p9 s hp _
  conv => whnf
  refine hp.storeW (vs := C2 ((q + t) % w64) ((q + t) / w64)) rfl (by repeat (first | exact Rm.here | apply Rm.there)) (by first | exact C2_same _ _ _ _ | exact C4_same _ _ _ _ _ _ _ _ | exact Dc_same _ _ | rfl) rfl rfl rfl ?_
  clear hp
  intro s hp _
  conv => whnf
  refine Sm.live [4, 5, 7, 9] ?_
  conv => whnf
  refine Sm.seqW ?_
  conv => whnf
  refine hp.loadA (l := C2 (p % w64) (p / w64)) (by repeat (first | exact Has.here | apply Has.there | (apply Has.swap; repeat (first | exact HasR.here | apply HasR.there)))) rfl (by rfl) rfl rfl ?_
  conv => whnf
  refine hp.loadA (l := C2 (r % w64) (r / w64)) (by repeat (first | exact Has.here | apply Has.there | (apply Has.swap; repeat (first | exact HasR.here | apply HasR.there)))) rfl (by rfl) rfl rfl ?_
  conv => whnf
  by_cases hlt : p + r < w128
  · refine hp.call (lAdd_add hp.wf (a := p) (b := r) (c := p + r) ar br rfl hlt) ?_
    clear hp
    rintro _ s rfl hp _
    conv => whnf
    refine hp.alloc (cs := C2 0 0) (e := 1) rfl rfl rfl rfl rfl ?_
    clear hp
    intro pb s hp _
    conv => whnf
    refine hp.storeW (vs := C2 ((p + r) % w64) ((p + r) / w64)) rfl (by repeat (first | exact Rm.here | apply Rm.there)) (by first | exact C2_same _ _ _ _ | exact C4_same _ _ _ _ _ _ _ _ | exact Dc_same _ _ | rfl) rfl rfl rfl ?_
    clear hp
    intro s hp _
    conv => whnf
    refine Sm.live [4, 5, 7, 9, 11, 12] ?_
    conv => whnf
    refine Sm.seq ?_
    refine Sm.seqW ?_
    conv => whnf
    refine Sm.ofW ?_
    conv => whnf
    repeat (first | (refine Br.yes (by first | with_reducible rfl | with_reducible exact beq_self_eq_true _ | rfl) ?_; conv => whnf) | (refine Br.no (by first | with_reducible rfl | with_reducible exact bne_self_eq_false _ | rfl) ?_; conv => whnf))
    refine Sm.seqW ?_
    conv => whnf
    refine Om.of _ (rfl) ?_
    conv => whnf
    refine hp.load (v := .int .u64 (((p + r) % w64 : Nat) : Int)) (by repeat (first | exact Has.here | apply Has.there | (apply Has.swap; repeat (first | exact HasR.here | apply HasR.there)))) (by rfl) rfl rfl rfl ?_
    conv => whnf
    refine Om.of _ (rfl) ?_
    conv => whnf
    refine hp.load (v := .int .u64 (((p + r) / w64 : Nat) : Int)) (by repeat (first | exact Has.here | apply Has.there | (apply Has.swap; repeat (first | exact HasR.here | apply HasR.there)))) (by rfl) rfl rfl rfl ?_
    conv => whnf
    refine Om.of _ (rfl) ?_
    conv => whnf
    refine hp.load (v := .int .u64 (((q + t) % w64 : Nat) : Int)) (by repeat (first | exact Has.here | apply Has.there | (apply Has.swap; repeat (first | exact HasR.here | apply HasR.there)))) (by rfl) rfl rfl rfl ?_
    conv => whnf
    refine Om.of _ (rfl) ?_
    conv => whnf
    refine hp.load (v := .int .u64 (((q + t) / w64 : Nat) : Int)) (by repeat (first | exact Has.here | apply Has.there | (apply Has.swap; repeat (first | exact HasR.here | apply HasR.there)))) (by rfl) rfl rfl rfl ?_
    conv => whnf
    refine hp.storeW (vs := C4 ((p + r) % w64) ((p + r) / w64) ((q + t) % w64) ((q + t) / w64)) rfl (by repeat (first | exact Rm.here | apply Rm.there)) (by first | exact C2_same _ _ _ _ | exact C4_same _ _ _ _ _ _ _ _ | exact Dc_same _ _ | rfl) rfl rfl rfl ?_
    clear hp
    intro s hp _
    conv => whnf
    refine Sm.ofW ?_
    conv => whnf
    refine hp.loadA (l := C4 ((p + r) % w64) ((p + r) / w64) ((q + t) % w64) ((q + t) / w64)) (by repeat (first | exact Has.here | apply Has.there | (apply Has.swap; repeat (first | exact HasR.here | apply HasR.there)))) rfl (by rfl) rfl rfl ?_
    conv => whnf
    exact ⟨hp.fr, hfin (q + t) (p + r) (by simp only [w128] at *; omega) (by simp only [w128] at *; omega)⟩
  · refine hp.call (lAdd_no hp.wf (a := p) (b := r) ar br hlt) ?_
    clear hp
    rintro _ s rfl hp _
    conv => whnf
    refine hp.alloc (cs := C2 0 0) (e := 1) rfl rfl rfl rfl rfl ?_
    clear hp
    intro pb s hp _
    conv => whnf
    refine hp.storeW (vs := C2 (0 % w64) (0 / w64)) rfl (by repeat (first | exact Rm.here | apply Rm.there)) (by first | exact C2_same _ _ _ _ | exact C4_same _ _ _ _ _ _ _ _ | exact Dc_same _ _ | rfl) rfl rfl rfl ?_
    clear hp
    intro s hp _
    conv => whnf
    refine Sm.live [4, 5, 7, 9, 11, 12] ?_
    conv => whnf
    refine Sm.seq ?_
    refine Sm.seqW ?_
    conv => whnf
    refine Sm.ofW ?_
    conv => whnf
    repeat (first | (refine Br.yes (by first | with_reducible rfl | with_reducible exact beq_self_eq_true _ | rfl) ?_; conv => whnf) | (refine Br.no (by first | with_reducible rfl | with_reducible exact bne_self_eq_false _ | rfl) ?_; conv => whnf))
    refine hp.loadA (l := C2 (r % w64) (r / w64)) (by repeat (first | exact Has.here | apply Has.there | (apply Has.swap; repeat (first | exact HasR.here | apply HasR.there)))) rfl (by rfl) rfl rfl ?_
    conv => whnf
    refine Om.of _ (rfl) ?_
    conv => whnf
    refine hp.load (v := .int .u64 ((p % w64 : Nat) : Int)) (by repeat (first | exact Has.here | apply Has.there | (apply Has.swap; repeat (first | exact HasR.here | apply HasR.there)))) (by rfl) rfl rfl rfl ?_
    conv => whnf
    refine Om.of _ (rfl) ?_
    conv => whnf
    refine hp.load (v := .int .u64 ((p / w64 : Nat) : Int)) (by repeat (first | exact Has.here | apply Has.there | (apply Has.swap; repeat (first | exact HasR.here | apply HasR.there)))) (by rfl) rfl rfl rfl ?_
    conv => whnf
    have c1 := compl_u64 (w2_lt ar).1
    have c2 := compl_u64 (w2_lt ar).2
    have hw : A2 (w64 - 1 - p % w64) (w64 - 1 - p / w64) = W2 (w128 - 1 - p) := by
      rw [words_of2 (by simp only [w64]; omega) (by simp only [w64]; omega)]
      congr 1
      have := w2_lt ar
      simp only [w64, w128] at *; omega
    have hcall := lSub_sub hp.wf (a := r) (b := w128 - 1 - p) (c := p + r - w128 + 1) br (by simp only [w128] at *; omega) (by simp only [w128] at *; omega) (by simp only [w128] at *; omega)
    rw [← hw] at hcall
    rw [c1, c2]
    refine hp.call (hcall) ?_
    clear hp
    rintro _ s rfl hp _
    conv => whnf
    refine hp.storeW (vs := C2 ((p + r - w128 + 1) % w64) ((p + r - w128 + 1) / w64)) rfl (by repeat (first | exact Rm.here | apply Rm.there)) (by first | exact C2_same _ _ _ _ | exact C4_same _ _ _ _ _ _ _ _ | exact Dc_same _ _ | rfl) rfl rfl rfl ?_
    clear hp
    intro s hp _
    conv => whnf
    refine ⟨[0, 0, 3, 7, 15, 15, 31], by decide +kernel, by decide +kernel, ?_⟩
    conv => whnf
    refine hp.loadA (l := C2 ((p + r - w128 + 1) % w64) ((p + r - w128 + 1) / w64)) (by repeat (first | exact Has.here | apply Has.there | (apply Has.swap; repeat (first | exact HasR.here | apply HasR.there)))) rfl (by rfl) rfl rfl ?_
    conv => whnf
    refine hp.rst.call (lOf_spec hp.rst.wf (a := 1) (by decide)) ?_
    rintro _ s1 rfl h1 k1
    conv => whnf
    refine hp.dkN h1 k1 ?_
    clear hp h1 k1
    intro s hp
    conv => whnf
    refine hp.rst.call (lSub_sub hp.rst.wf (a := p + r - w128 + 1) (b := 1) (c := p + r - w128) (by simp only [w128] at *; omega) one_lt (by omega) (by omega)) ?_
    rintro _ s1 rfl h1 k1
    conv => whnf
    refine hp.dkN h1 k1 ?_
    clear hp h1 k1
    intro s hp
    conv => whnf
    refine hp.rst.storeW (vs := C2 ((p + r - w128) % w64) ((p + r - w128) / w64)) rfl (by repeat (first | exact Rm.here | apply Rm.there)) (by first | exact C2_same _ _ _ _ | exact C4_same _ _ _ _ _ _ _ _ | exact Dc_same _ _ | rfl) rfl rfl rfl ?_
    intro s1 h1 l1
    conv => whnf
    refine hp.dkW h1 l1 ?_
    clear hp h1 l1
    intro s hp
    conv => whnf
    refine ⟨[0, 0, 3, 7, 15, 15, 31], by decide +kernel, by decide +kernel, ?_⟩
    conv => whnf
    refine hp.loadA (l := C2 ((q + t) % w64) ((q + t) / w64)) (by repeat (first | exact Has.here | apply Has.there | (apply Has.swap; repeat (first | exact HasR.here | apply HasR.there)))) rfl (by rfl) rfl rfl ?_
    conv => whnf
    refine hp.rst.call (lOf_spec hp.rst.wf (a := 1) (by decide)) ?_
    rintro _ s1 rfl h1 k1
    conv => whnf
    refine hp.dkN h1 k1 ?_
    clear hp h1 k1
    intro s hp
    conv => whnf
    refine hp.rst.call (lAdd_add hp.rst.wf (a := q + t) (b := 1) (c := q + t + 1) (by simp only [w128] at *; omega) one_lt rfl (by simp only [w128] at *; omega)) ?_
    rintro _ s1 rfl h1 k1
    conv => whnf
    refine hp.dkN h1 k1 ?_
    clear hp h1 k1
    intro s hp
    conv => whnf
    refine hp.rst.storeW (vs := C2 ((q + t + 1) % w64) ((q + t + 1) / w64)) rfl (by repeat (first | exact Rm.here | apply Rm.there)) (by first | exact C2_same _ _ _ _ | exact C4_same _ _ _ _ _ _ _ _ | exact Dc_same _ _ | rfl) rfl rfl rfl ?_
    intro s1 h1 l1
    conv => whnf
    refine hp.dkW h1 l1 ?_
    clear hp h1 l1
    intro s hp
    conv => whnf
    refine Sm.seqW ?_
    conv => whnf
    refine Om.of _ (rfl) ?_
    conv => whnf
    refine hp.load (v := .int .u64 (((p + r - w128) % w64 : Nat) : Int)) (by repeat (first | exact Has.here | apply Has.there | (apply Has.swap; repeat (first | exact HasR.here | apply HasR.there)))) (by rfl) rfl rfl rfl ?_
    conv => whnf
    refine Om.of _ (rfl) ?_
    conv => whnf
    refine hp.load (v := .int .u64 (((p + r - w128) / w64 : Nat) : Int)) (by repeat (first | exact Has.here | apply Has.there | (apply Has.swap; repeat (first | exact HasR.here | apply HasR.there)))) (by rfl) rfl rfl rfl ?_
    conv => whnf
    refine Om.of _ (rfl) ?_
    conv => whnf
    refine hp.load (v := .int .u64 (((q + t + 1) % w64 : Nat) : Int)) (by repeat (first | exact Has.here | apply Has.there | (apply Has.swap; repeat (first | exact HasR.here | apply HasR.there)))) (by rfl) rfl rfl rfl ?_
    conv => whnf
    refine Om.of _ (rfl) ?_
    conv => whnf
    refine hp.load (v := .int .u64 (((q + t + 1) / w64 : Nat) : Int)) (by repeat (first | exact Has.here | apply Has.there | (apply Has.swap; repeat (first | exact HasR.here | apply HasR.there)))) (by rfl) rfl rfl rfl ?_
    conv => whnf
    refine hp.storeW (vs := C4 ((p + r - w128) % w64) ((p + r - w128) / w64) ((q + t + 1) % w64) ((q + t + 1) / w64)) rfl (by repeat (first | exact Rm.here | apply Rm.there)) (by first | exact C2_same _ _ _ _ | exact C4_same _ _ _ _ _ _ _ _ | exact Dc_same _ _ | rfl) rfl rfl rfl ?_
    clear hp
    intro s hp _
    conv => whnf
    refine Sm.ofW ?_
    conv => whnf
    refine hp.loadA (l := C4 ((p + r - w128) % w64) ((p + r - w128) / w64) ((q + t + 1) % w64) ((q + t + 1) / w64)) (by repeat (first | exact Has.here | apply Has.there | (apply Has.swap; repeat (first | exact HasR.here | apply HasR.there)))) rfl (by rfl) rfl rfl ?_
    conv => whnf
    exact ⟨hp.fr, hfin (q + t + 1) (p + r - w128) (by simp only [w128] at *; omega) (by simp only [w128] at *; omega)⟩
theorem dless_spec {z : St} (wf : WF z) {a b : Nat} (ha : a < w256) (hb : b ≤ a) :
    Cw Tryz.prog 68 [W4 a, W4 b] z fun r s' => K0 z s' ∧ r = W4 (a - b) := by
  have hp : Hp (fun _ => False) z [] [] z := Hp.start _ wf _ (by simp)
  have b1 : b < w256 := by omega
  obtain ⟨q, hq⟩ : ∃ q, q = a / w128 := ⟨_, rfl⟩
  obtain ⟨p, hP⟩ : ∃ p, p = a % w128 := ⟨_, rfl⟩
  obtain ⟨t, ht⟩ : ∃ q, q = b / w128 := ⟨_, rfl⟩
  obtain ⟨r, hr⟩ : ∃ p, p = b % w128 := ⟨_, rfl⟩
  have aq : q < w128 := by simp only [w128, w256] at *; omega
  have bq : t ≤ q := by simp only [w128, w256] at *; omega
  have ar : p < w128 := hP ▸ Nat.mod_lt _ (by decide)
  have br : r < w128 := hr ▸ Nat.mod_lt _ (by decide)
  have hab : a = q * w128 + p ∧ b = t * w128 + r := by simp only [w128] at *; omega
  have hfin : ∀ h l : Nat, l < w128 → h * w128 + l = a - b → A4 (l % w64) (l / w64) (h % w64) (h / w64) = W4 (a - b) := fun h l hl e => by rw [← e, w4_parts hl]
  refine Cw.enterS Tryz.func68 rfl rfl ?_
  refine Sm.seqW ?_
  conv => whnf
  refine hp.var (cs := C4 (a % w64) (a / w64 % w64) (a / w128 % w64) (a / w192)) (e := 1) rfl rfl ?_
  clear hp
  intro p2 s hp _
  conv => whnf
  refine hp.var (cs := C4 (b % w64) (b / w64 % w64) (b / w128 % w64) (b / w192)) (e := 1) rfl rfl ?_
  clear hp
  intro p3 s hp _
  conv => whnf
  refine hp.alloc (cs := C4 0 0 0 0) (e := 1) rfl rfl rfl rfl rfl ?_
  clear hp
  intro p4 s hp _
  conv => whnf
  refine Sm.live [2, 3, 4] ?_
  conv => whnf
  refine Sm.seqW ?_
  conv => whnf
  refine hp.loadA (l := C4 (a % w64) (a / w64 % w64) (a / w128 % w64) (a / w192)) (by repeat (first | exact Has.here | apply Has.there | (apply Has.swap; repeat (first | exact HasR.here | apply HasR.there)))) rfl (by rfl) rfl rfl ?_
  conv => whnf
  refine hp.call (dhalves_spec hp.wf ha) ?_
  clear hp
  rintro _ s rfl hp _
  conv => whnf
  rw [← hq, ← hP]
  refine hp.alloc (cs := C2 0 0) (e := 1) rfl rfl rfl rfl rfl ?_
  clear hp
  intro p5 s hp _
  conv => whnf
  refine hp.alloc (cs := C2 0 0) (e := 1) rfl rfl rfl rfl rfl ?_
  clear hp
  intro p6 s hp _
  conv => whnf
  refine hp.storeW (vs := C2 (p % w64) (p / w64)) rfl (by repeat (first | exact Rm.here | apply Rm.there)) (by first | exact C2_same _ _ _ _ | exact C4_same _ _ _ _ _ _ _ _ | exact Dc_same _ _ | rfl) rfl rfl rfl ?_
  clear hp
  intro s hp _
  conv => whnf
  refine hp.storeW (vs := C2 (q % w64) (q / w64)) rfl (by repeat (first | exact Rm.here | apply Rm.there)) (by first | exact C2_same _ _ _ _ | exact C4_same _ _ _ _ _ _ _ _ | exact Dc_same _ _ | rfl) rfl rfl rfl ?_
  clear hp
  intro s hp _
  conv => whnf
  refine Sm.live [3, 4, 5, 6] ?_
  conv => whnf
  refine Sm.seqW ?_
  conv => whnf
  refine hp.loadA (l := C4 (b % w64) (b / w64 % w64) (b / w128 % w64) (b / w192)) (by repeat (first | exact Has.here | apply Has.there | (apply Has.swap; repeat (first | exact HasR.here | apply HasR.there)))) rfl (by rfl) rfl rfl ?_
  conv => whnf
  refine hp.call (dhalves_spec hp.wf b1) ?_
  clear hp
  rintro _ s rfl hp _
  conv => whnf
  rw [← ht, ← hr]
  refine hp.alloc (cs := C2 0 0) (e := 1) rfl rfl rfl rfl rfl ?_
  clear hp
  intro p7 s hp _
  conv => whnf
  refine hp.alloc (cs := C2 0 0) (e := 1) rfl rfl rfl rfl rfl ?_
  clear hp
  intro p8 s hp _
  conv => whnf
  refine hp.storeW (vs := C2 (r % w64) (r / w64)) rfl (by repeat (first | exact Rm.here | apply Rm.there)) (by first | exact C2_same _ _ _ _ | exact C4_same _ _ _ _ _ _ _ _ | exact Dc_same _ _ | rfl) rfl rfl rfl ?_
  clear hp
  intro s hp _
  conv => whnf
  refine hp.storeW (vs := C2 (t % w64) (t / w64)) rfl (by repeat (first | exact Rm.here | apply Rm.there)) (by first | exact C2_same _ _ _ _ | exact C4_same _ _ _ _ _ _ _ _ | exact Dc_same _ _ | rfl) rfl rfl rfl ?_
  clear hp
  intro s hp _
  conv => whnf
  refine Sm.live [4, 5, 6, 7, 8] ?_
  conv => whnf
  refine Sm.seqW ?_
  conv => whnf
  refine hp.loadA (l := C2 (q % w64) (q / w64)) (by repeat (first | exact Has.here | apply Has.there | (apply Has.swap; repeat (first | exact HasR.here | apply HasR.there)))) rfl (by rfl) rfl rfl ?_
  conv => whnf
  refine hp.loadA (l := C2 (t % w64) (t / w64)) (by repeat (first | exact Has.here | apply Has.there | (apply Has.swap; repeat (first | exact HasR.here | apply HasR.there)))) rfl (by rfl) rfl rfl ?_
  conv => whnf
  refine hp.call (lSub_sub hp.wf (a := q) (b := t) (c := q - t) aq (by omega) bq rfl) ?_
  clear hp
  rintro _ s rfl hp _
  conv => whnf
  refine hp.alloc (cs := C2 0 0) (e := 1) rfl rfl rfl rfl rfl ?_
  clear hp
  intro p9 s hp _
  conv => whnf
  refine hp.storeW (vs := C2 ((q - t) % w64) ((q - t) / w64)) rfl (by repeat (first | exact Rm.here | apply Rm.there)) (by first | exact C2_same _ _ _ _ | exact C4_same _ _ _ _ _ _ _ _ | exact Dc_same _ _ | rfl) rfl rfl rfl ?_
  clear hp
  intro s hp _
  conv => whnf
  refine Sm.live [4, 5, 7, 9] ?_
  conv => whnf
  refine Sm.seqW ?_
  conv => whnf
  refine hp.loadA (l := C2 (p % w64) (p / w64)) (by repeat (first | exact Has.here | apply Has.there | (apply Has.swap; repeat (first | exact HasR.here | apply HasR.there)))) rfl (by rfl) rfl rfl ?_
  conv => whnf
  refine hp.loadA (l := C2 (r % w64) (r / w64)) (by repeat (first | exact Has.here | apply Has.there | (apply Has.swap; repeat (first | exact HasR.here | apply HasR.there)))) rfl (by rfl) rfl rfl ?_
  conv => whnf
  by_cases hlt : r ≤ p
  · refine hp.call (lSub_sub hp.wf (a := p) (b := r) (c := p - r) ar br hlt rfl) ?_
    clear hp
    rintro _ s rfl hp _
    conv => whnf
    refine hp.alloc (cs := C2 0 0) (e := 1) rfl rfl rfl rfl rfl ?_
    clear hp
    intro pb s hp _
    conv => whnf
    refine hp.storeW (vs := C2 ((p - r) % w64) ((p - r) / w64)) rfl (by repeat (first | exact Rm.here | apply Rm.there)) (by first | exact C2_same _ _ _ _ | exact C4_same _ _ _ _ _ _ _ _ | exact Dc_same _ _ | rfl) rfl rfl rfl ?_
    clear hp
    intro s hp _
    conv => whnf
    refine Sm.live [4, 5, 7, 9, 11, 12] ?_
    conv => whnf
    refine Sm.seq ?_
    refine Sm.seqW ?_
    conv => whnf
    refine Sm.ofW ?_
    conv => whnf
    repeat (first | (refine Br.yes (by first | with_reducible rfl | with_reducible exact beq_self_eq_true _ | rfl) ?_; conv => whnf) | (refine Br.no (by first | with_reducible rfl | with_reducible exact bne_self_eq_false _ | rfl) ?_; conv => whnf))
    refine Sm.seqW ?_
    conv => whnf
    refine Om.of _ (rfl) ?_
    conv => whnf
    refine hp.load (v := .int .u64 (((p - r) % w64 : Nat) : Int)) (by repeat (first | exact Has.here | apply Has.there | (apply Has.swap; repeat (first | exact HasR.here | apply HasR.there)))) (by rfl) rfl rfl rfl ?_
    conv => whnf
    refine Om.of _ (rfl) ?_
    conv => whnf
    refine hp.load (v := .int .u64 (((p - r) / w64 : Nat) : Int)) (by repeat (first | exact Has.here | apply Has.there | (apply Has.swap; repeat (first | exact HasR.here | apply HasR.there)))) (by rfl) rfl rfl rfl ?_
    conv => whnf
    refine Om.of _ (rfl) ?_
    conv => whnf
    refine hp.load (v := .int .u64 (((q - t) % w64 : Nat) : Int)) (by repeat (first | exact Has.here | apply Has.there | (apply Has.swap; repeat (first | exact HasR.here | apply HasR.there)))) (by rfl) rfl rfl rfl ?_
    conv => whnf
    refine Om.of _ (rfl) ?_
    conv => whnf
    refine hp.load (v := .int .u64 (((q - t) / w64 : Nat) : Int)) (by repeat (first | exact Has.here | apply Has.there | (apply Has.swap; repeat (first | exact HasR.here | apply HasR.there)))) (by rfl) rfl rfl rfl ?_
    conv => whnf
    refine hp.storeW (vs := C4 ((p - r) % w64) ((p - r) / w64) ((q - t) % w64) ((q - t) / w64)) rfl (by repeat (first | exact Rm.here | apply Rm.there)) (by first | exact C2_same _ _ _ _ | exact C4_same _ _ _ _ _ _ _ _ | exact Dc_same _ _ | rfl) rfl rfl rfl ?_
    clear hp
    intro s hp _
    conv => whnf
    refine Sm.ofW ?_
    conv => whnf
    refine hp.loadA (l := C4 ((p - r) % w64) ((p - r) / w64) ((q - t) % w64) ((q - t) / w64)) (by repeat (first | exact Has.here | apply Has.there | (apply Has.swap; repeat (first | exact HasR.here | apply HasR.there)))) rfl (by rfl) rfl rfl ?_
    conv => whnf
    exact ⟨hp.fr, hfin (q - t) (p - r) (by simp only [w128] at *; omega) (by simp only [w128] at *; omega)⟩
  · have htq : t < q := by simp only [w128] at *; omega
    refine hp.call (lSub_no hp.wf (a := p) (b := r) ar br (by omega)) ?_
    clear hp
    rintro _ s rfl hp _
    conv => whnf
    refine hp.alloc (cs := C2 0 0) (e := 1) rfl rfl rfl rfl rfl ?_
    clear hp
    intro pb s hp _
    conv => whnf
    refine hp.storeW (vs := C2 (0 % w64) (0 / w64)) rfl (by repeat (first | exact Rm.here | apply Rm.there)) (by first | exact C2_same _ _ _ _ | exact C4_same _ _ _ _ _ _ _ _ | exact Dc_same _ _ | rfl) rfl rfl rfl ?_
    clear hp
    intro s hp _
    conv => whnf
    refine Sm.live [4, 5, 7, 9, 11, 12] ?_
    conv => whnf
    refine Sm.seq ?_
    refine Sm.seqW ?_
    conv => whnf
    refine Sm.ofW ?_
    conv => whnf
    repeat (first | (refine Br.yes (by first | with_reducible rfl | with_reducible exact beq_self_eq_true _ | rfl) ?_; conv => whnf) | (refine Br.no (by first | with_reducible rfl | with_reducible exact bne_self_eq_false _ | rfl) ?_; conv => whnf))
    refine hp.loadA (l := C2 (r % w64) (r / w64)) (by repeat (first | exact Has.here | apply Has.there | (apply Has.swap; repeat (first | exact HasR.here | apply HasR.there)))) rfl (by rfl) rfl rfl ?_
    conv => whnf
    refine hp.loadA (l := C2 (p % w64) (p / w64)) (by repeat (first | exact Has.here | apply Has.there | (apply Has.swap; repeat (first | exact HasR.here | apply HasR.there)))) rfl (by rfl) rfl rfl ?_
    conv => whnf
    refine hp.call (lSub_sub hp.wf (a := r) (b := p) (c := r - p) br ar (by omega) rfl) ?_
    clear hp
    rintro _ s rfl hp _
    conv => whnf
    refine hp.alloc (cs := C2 0 0) (e := 1) rfl rfl rfl rfl rfl ?_
    clear hp
    intro pd s hp _
    conv => whnf
    refine hp.storeW (vs := C2 ((r - p) % w64) ((r - p) / w64)) rfl (by repeat (first | exact Rm.here | apply Rm.there)) (by first | exact C2_same _ _ _ _ | exact C4_same _ _ _ _ _ _ _ _ | exact Dc_same _ _ | rfl) rfl rfl rfl ?_
    clear hp
    intro s hp _
    conv => whnf
    refine ⟨[0, 0, 3, 7, 15, 15, 31], by decide +kernel, by decide +kernel, ?_⟩
    conv => whnf
    refine hp.loadA (l := C2 ((r - p) % w64) ((r - p) / w64)) (by repeat (first | exact Has.here | apply Has.there | (apply Has.swap; repeat (first | exact HasR.here | apply HasR.there)))) rfl (by rfl) rfl rfl ?_
    conv => whnf
    refine hp.rst.call (lOf_spec hp.rst.wf (a := 1) (by decide)) ?_
    rintro _ s1 rfl h1 k1
    conv => whnf
    refine hp.dkN h1 k1 ?_
    clear hp h1 k1
    intro s hp
    conv => whnf
    obtain ⟨y, hy⟩ : ∃ y, y = r - p - 1 := ⟨_, rfl⟩
    have hyl : y < w128 := by omega
    refine hp.rst.call (lSub_sub hp.rst.wf (a := r - p) (b := 1) (c := y) (by omega) one_lt (by omega) hy) ?_
    rintro _ s1 rfl h1 k1
    conv => whnf
    refine hp.dkN h1 k1 ?_
    clear hp h1 k1
    intro s hp
    conv => whnf
    refine hp.rst.storeW (vs := C2 ((y) % w64) ((y) / w64)) rfl (by repeat (first | exact Rm.here | apply Rm.there)) (by first | exact C2_same _ _ _ _ | exact C4_same _ _ _ _ _ _ _ _ | exact Dc_same _ _ | rfl) rfl rfl rfl ?_
    intro s1 h1 l1
    conv => whnf
    refine hp.dkW h1 l1 ?_
    clear hp h1 l1
    intro s hp
    conv => whnf
    refine Om.of _ (rfl) ?_
    conv => whnf
    refine hp.load (v := .int .u64 ((y % w64 : Nat) : Int)) (by repeat (first | exact Has.here | apply Has.there | (apply Has.swap; repeat (first | exact HasR.here | apply HasR.there)))) (by rfl) rfl rfl rfl ?_
    conv => whnf
    refine Om.of _ (rfl) ?_
    conv => whnf
    refine hp.load (v := .int .u64 ((y / w64 : Nat) : Int)) (by repeat (first | exact Has.here | apply Has.there | (apply Has.swap; repeat (first | exact HasR.here | apply HasR.there)))) (by rfl) rfl rfl rfl ?_
    conv => whnf
    have c1 := compl_u64 (w2_lt hyl).1
    have c2 := compl_u64 (w2_lt hyl).2
    have hyd := Nat.div_add_mod y w64
    have hw : (w64 - 1 - y % w64) = (p + w128 - r) % w64 ∧ w64 - 1 - y / w64 = (p + w128 - r) / w64 := by
      have := w2_lt hyl
      simp only [w64, w128] at *; omega
    rw [c1, c2, hw.1, hw.2]
    refine hp.storeW (vs := C2 ((p + w128 - r) % w64) ((p + w128 - r) / w64)) rfl (by repeat (first | exact Rm.here | apply Rm.there)) (by first | exact C2_same _ _ _ _ | exact C4_same _ _ _ _ _ _ _ _ | exact Dc_same _ _ | rfl) rfl rfl rfl ?_
    clear hp
    intro s hp _
    conv => whnf
    refine ⟨[0, 0, 3, 7, 15, 15, 31], by decide +kernel, by decide +kernel, ?_⟩
    conv => whnf
    refine hp.loadA (l := C2 ((q - t) % w64) ((q - t) / w64)) (by repeat (first | exact Has.here | apply Has.there | (apply Has.swap; repeat (first | exact HasR.here | apply HasR.there)))) rfl (by rfl) rfl rfl ?_
    conv => whnf
    refine hp.rst.call (lOf_spec hp.rst.wf (a := 1) (by decide)) ?_
    rintro _ s1 rfl h1 k1
    conv => whnf
    refine hp.dkN h1 k1 ?_
    clear hp h1 k1
    intro s hp
    conv => whnf
    refine hp.rst.call (lSub_sub hp.rst.wf (a := q - t) (b := 1) (c := q - t - 1) (by omega) one_lt (by omega) rfl) ?_
    rintro _ s1 rfl h1 k1
    conv => whnf
    refine hp.dkN h1 k1 ?_
    clear hp h1 k1
    intro s hp
    conv => whnf
    refine hp.rst.storeW (vs := C2 ((q - t - 1) % w64) ((q - t - 1) / w64)) rfl (by repeat (first | exact Rm.here | apply Rm.there)) (by first | exact C2_same _ _ _ _ | exact C4_same _ _ _ _ _ _ _ _ | exact Dc_same _ _ | rfl) rfl rfl rfl ?_
    intro s1 h1 l1
    conv => whnf
    refine hp.dkW h1 l1 ?_
    clear hp h1 l1
    intro s hp
    conv => whnf
    refine Sm.seqW ?_
    conv => whnf
    refine Om.of _ (rfl) ?_
    conv => whnf
    refine hp.load (v := .int .u64 (((p + w128 - r) % w64 : Nat) : Int)) (by repeat (first | exact Has.here | apply Has.there | (apply Has.swap; repeat (first | exact HasR.here | apply HasR.there)))) (by rfl) rfl rfl rfl ?_
    conv => whnf
    refine Om.of _ (rfl) ?_
    conv => whnf
    refine hp.load (v := .int .u64 (((p + w128 - r) / w64 : Nat) : Int)) (by repeat (first | exact Has.here | apply Has.there | (apply Has.swap; repeat (first | exact HasR.here | apply HasR.there)))) (by rfl) rfl rfl rfl ?_
    conv => whnf
    refine Om.of _ (rfl) ?_
    conv => whnf
    refine hp.load (v := .int .u64 (((q - t - 1) % w64 : Nat) : Int)) (by repeat (first | exact Has.here | apply Has.there | (apply Has.swap; repeat (first | exact HasR.here | apply HasR.there)))) (by rfl) rfl rfl rfl ?_
    conv => whnf
    refine Om.of _ (rfl) ?_
    conv => whnf
    refine hp.load (v := .int .u64 (((q - t - 1) / w64 : Nat) : Int)) (by repeat (first | exact Has.here | apply Has.there | (apply Has.swap; repeat (first | exact HasR.here | apply HasR.there)))) (by rfl) rfl rfl rfl ?_
    conv => whnf
    refine hp.storeW (vs := C4 ((p + w128 - r) % w64) ((p + w128 - r) / w64) ((q - t - 1) % w64) ((q - t - 1) / w64)) rfl (by repeat (first | exact Rm.here | apply Rm.there)) (by first | exact C2_same _ _ _ _ | exact C4_same _ _ _ _ _ _ _ _ | exact Dc_same _ _ | rfl) rfl rfl rfl ?_
    clear hp
    intro s hp _
    conv => whnf
    refine Sm.ofW ?_
    conv => whnf
    refine hp.loadA (l := C4 ((p + w128 - r) % w64) ((p + w128 - r) / w64) ((q - t - 1) % w64) ((q - t - 1) / w64)) (by repeat (first | exact Has.here | apply Has.there | (apply Has.swap; repeat (first | exact HasR.here | apply HasR.there)))) rfl (by rfl) rfl rfl ?_
    conv => whnf
    exact ⟨hp.fr, hfin (q - t - 1) (p + w128 - r) (by simp only [w128] at *; omega) (by simp only [w128] at *; omega)⟩
end Go.Ev
end

/- Sums, products and the order of decimals, without a program. No condition. -/
noncomputable section
namespace Go.Ev
open Go.Proofs
variable [Lk]
set_option linter.unusedSectionVars false
set_option linter.unusedVariables false

/-- A decimal's digits with its sign, at a scale. -/
def up (d : Dc) (S : Int) : Int := if d.neg = true then -((d.c * 10 ^ (S - d.scale).toNat : Nat) : Int) else ((d.c * 10 ^ (S - d.scale).toNat : Nat) : Int)
def mkI (x : Int) (S : Int) : Value := dmade (decide (x < 0)) x.natAbs S
def addF (a b : Dc) : Value := if a.right = false ∨ b.right = false then errD 1 else mkI (up a (max a.scale b.scale) + up b (max a.scale b.scale)) (max a.scale b.scale)
def cmpZ (x y : Int) : Int := if x < y then -1 else if x = y then 0 else 1
def cmpF (a b : Dc) : Int := if a.right = false ∨ b.right = false then 0 else cmpZ (up a (max a.scale b.scale)) (up b (max a.scale b.scale))
theorem dmade_mk (neg : Bool) (n : Nat) (S : Int) : dmade neg n S = mkI (if neg = true then -(n : Int) else n) S := by
  unfold mkI
  cases neg with
  | false =>
    rw [if_neg (by decide), decide_eq_false (by omega)]; rfl
  | true =>
    rw [if_pos rfl]
    have e : (-(n : Int)).natAbs = n := by omega
    rw [e]
    unfold dmade
    by_cases h : n = 0
    · subst h; rfl
    · rw [decide_eq_true (show -(n : Int) < 0 by omega)]
theorem add_same {a b : Dc} {S : Int} (h : a.neg = b.neg) : dmade a.neg (a.c * 10 ^ (S - a.scale).toNat + b.c * 10 ^ (S - b.scale).toNat) S = mkI (up a S + up b S) S := by
  rw [dmade_mk]
  unfold up
  rw [← h]
  congr 1
  generalize a.c * 10 ^ (S - a.scale).toNat = x
  generalize b.c * 10 ^ (S - b.scale).toNat = y
  cases a.neg <;> simp <;> omega
theorem add_left {a b : Dc} {S : Int} (h : ¬ a.neg = b.neg) (hle : b.c * 10 ^ (S - b.scale).toNat ≤ a.c * 10 ^ (S - a.scale).toNat) : dmade a.neg (a.c * 10 ^ (S - a.scale).toNat - b.c * 10 ^ (S - b.scale).toNat) S = mkI (up a S + up b S) S := by
  rw [dmade_mk]
  unfold up
  congr 1
  generalize a.c * 10 ^ (S - a.scale).toNat = x at *
  generalize b.c * 10 ^ (S - b.scale).toNat = y at *
  cases ha : a.neg <;> cases hb : b.neg <;> rw [ha, hb] at h <;> first | exact absurd rfl h | (simp; omega)
theorem add_right {a b : Dc} {S : Int} (h : ¬ a.neg = b.neg) (hle : a.c * 10 ^ (S - a.scale).toNat ≤ b.c * 10 ^ (S - b.scale).toNat) : dmade b.neg (b.c * 10 ^ (S - b.scale).toNat - a.c * 10 ^ (S - a.scale).toNat) S = mkI (up a S + up b S) S := by
  rw [Int.add_comm]
  exact add_left (fun e => h e.symm) hle
theorem sign_right {d : Dc} (h : d.right = true) : signF d = if d.c = 0 then 0 else if d.neg = true then -1 else 1 := by
  unfold signF
  rw [h]
  simp
theorem up_sign {d : Dc} (S : Int) (h : d.right = true) : (signF d = 0 ↔ up d S = 0) ∧ (signF d = -1 ↔ up d S < 0) ∧ (signF d = 1 ↔ 0 < up d S) ∧ (signF d = 0 ∨ signF d = -1 ∨ signF d = 1) := by
  rw [sign_right h]
  unfold up
  have hp := p10 (S - d.scale).toNat
  by_cases h0 : d.c = 0
  · rw [h0, Nat.zero_mul]; cases d.neg <;> simp
  · have : 0 < d.c * 10 ^ (S - d.scale).toNat := Nat.mul_pos (Nat.pos_of_ne_zero h0) hp
    generalize d.c * 10 ^ (S - d.scale).toNat = x at *
    rw [if_neg h0]
    cases d.neg <;> simp <;> omega
theorem cmp_sign {a b : Dc} (ha : a.right = true) (hb : b.right = true) (h : signF a ≠ signF b) : cmpF a b = if signF a < signF b then -1 else 1 := by
  unfold cmpF cmpZ
  rw [if_neg (by simp [ha, hb])]
  obtain ⟨a1, a2, a3, a4⟩ := up_sign (max a.scale b.scale) ha
  obtain ⟨b1, b2, b3, b4⟩ := up_sign (max a.scale b.scale) hb
  generalize signF a = p at *
  generalize signF b = q at *
  generalize up a (max a.scale b.scale) = x at *
  generalize up b (max a.scale b.scale) = y at *
  by_cases hpq : p < q
  · rw [if_pos hpq, if_pos (by omega)]
  · rw [if_neg hpq, if_neg (by omega), if_neg (by omega)]
theorem cmp_same {a b : Dc} (ha : a.right = true) (hb : b.right = true) (h : signF a = signF b) :
    cmpF a b = cmpI (a.c * 10 ^ (max a.scale b.scale - a.scale).toNat) (b.c * 10 ^ (max a.scale b.scale - b.scale).toNat) * signF a := by
  have hf : cmpF a b = cmpZ (up a (max a.scale b.scale)) (up b (max a.scale b.scale)) := by unfold cmpF; rw [if_neg (by simp [ha, hb])]
  rw [hf]
  obtain ⟨a1, a2, a3, a4⟩ := up_sign (max a.scale b.scale) ha
  obtain ⟨b1, b2, b3, b4⟩ := up_sign (max a.scale b.scale) hb
  rw [← h] at b1 b2 b3 b4
  generalize max a.scale b.scale = S at *
  have ea : up a S = if a.neg = true then -((a.c * 10 ^ (S - a.scale).toNat : Nat) : Int) else ((a.c * 10 ^ (S - a.scale).toNat : Nat) : Int) := rfl
  have eb : up b S = if b.neg = true then -((b.c * 10 ^ (S - b.scale).toNat : Nat) : Int) else ((b.c * 10 ^ (S - b.scale).toNat : Nat) : Int) := rfl
  generalize a.c * 10 ^ (S - a.scale).toNat = x at *
  generalize b.c * 10 ^ (S - b.scale).toNat = y at *
  generalize up a S = X at *
  generalize up b S = Y at *
  generalize signF a = p at *
  have hX : X = x ∨ X = -x := by rw [ea]; split <;> simp
  have hY : Y = y ∨ Y = -y := by rw [eb]; split <;> simp
  clear ea eb
  unfold cmpZ cmpI
  rcases a4 with rfl | rfl | rfl
  · have := a1.1 rfl
    have := b1.1 rfl
    rw [if_neg (by omega), if_pos (by omega)]; simp
  · have := a2.1 rfl
    have := b2.1 rfl
    by_cases g : x < y
    · rw [if_neg (by omega), if_neg (by omega), if_pos g]; rfl
    · by_cases g2 : x = y
      · rw [if_neg (by omega), if_pos (by omega), if_neg g, if_pos g2]; rfl
      · rw [if_pos (by omega), if_neg g, if_neg g2]; rfl
  · have := a3.1 rfl
    have := b3.1 rfl
    by_cases g : x < y
    · rw [if_pos (by omega), if_pos g]; rfl
    · by_cases g2 : x = y
      · rw [if_neg (by omega), if_pos (by omega), if_neg g, if_pos g2]; rfl
      · rw [if_neg (by omega), if_neg (by omega), if_neg g, if_neg g2]; rfl
theorem wide_small {d : Dc} {S : Int} (h : d.c < 10 ^ 30) (hs : S - d.scale ≤ 9) : d.c * 10 ^ (S - d.scale).toNat < w256 / 4 := by
  have h1 := pow_le10 (show (S - d.scale).toNat ≤ 9 by omega)
  have h2 := Nat.mul_le_mul (Nat.le_of_lt h) h1
  have h3 : 10 ^ 30 * 10 ^ 9 < w256 / 4 := by decide
  omega
theorem addF_shape (a b : Dc) : ∃ (d : Dc) (e : Int), addF a b = .tuple #[d.val, .int .i64 e] := by
  unfold addF
  split
  · exact ⟨_, _, rfl⟩
  · exact dmade_shape _ _ _
end Go.Ev
end

/- dec.Cmp, Add, Sub, Mul walked. No condition. -/
noncomputable section
namespace Go.Ev
open Go.Proofs
variable [Lk]
set_option linter.unusedSectionVars false
set_option linter.unusedVariables false
set_option maxRecDepth 100000

theorem cmpI_cases (x y : Nat) : cmpI x y = -1 ∨ cmpI x y = 0 ∨ cmpI x y = 1 := by
  unfold cmpI
  split
  · exact .inl rfl
  · split
    · exact .inr (.inl rfl)
    · exact .inr (.inr rfl)
theorem wide_at {z : St} (wf : WF z) {d : Dc} (hd : d.c < w128) (hr : d.right = true) {S : Int} (h1 : d.scale ≤ S) (h2 : S ≤ 9) :
    Cw Tryz.prog 64 [d.val, .int .i64 S] z fun r s' => K0 z s' ∧ r = W4 (d.c * 10 ^ (S - d.scale).toNat) := by
  obtain ⟨g1, g2, g3⟩ := Dc.right_c hr
  exact dwide_spec wf d hd (k := (S - d.scale).toNat) (by omega) (by omega) ⟨by omega, by omega⟩
theorem decCmp_spec {z : St} (wf : WF z) (a b : Dc) (ha : a.c < w128) (hb : b.c < w128) : Cw Tryz.prog 28 [a.val, b.val] z fun r s' => K0 z s' ∧ r = .int .i64 (cmpF a b) := by
  have hp : Hp (fun _ => False) z [] [] z := Hp.start _ wf _ (by simp)
  refine Cw.enterS Tryz.func28 rfl rfl ?_
  refine Sm.seqW ?_
  conv => whnf
  refine hp.var (cs := a.cells) (e := 4) rfl rfl ?_
  clear hp
  intro p2 s hp _
  conv => whnf
  refine hp.var (cs := b.cells) (e := 4) rfl rfl ?_
  clear hp
  intro p3 s hp _
  conv => whnf
  refine Sm.live [2, 3] ?_
  conv => whnf
  refine Sm.seq ?_
  refine Sm.seqW ?_
  conv => whnf
  refine hp.loadA (l := a.cells) (by repeat (first | exact Has.here | apply Has.there | (apply Has.swap; repeat (first | exact HasR.here | apply HasR.there)))) rfl (by rfl) rfl rfl ?_
  conv => whnf
  refine hp.call (right_spec hp.wf a ha) ?_
  clear hp
  rintro _ s rfl hp _
  conv => whnf
  cases hr : a.right with
  | false =>
    repeat (first | (refine Br.yes (by first | with_reducible rfl | with_reducible exact beq_self_eq_true _ | rfl) ?_; conv => whnf) | (refine Br.no (by first | with_reducible rfl | with_reducible exact bne_self_eq_false _ | rfl) ?_; conv => whnf))
    refine Sm.ofW ?_
    conv => whnf
    repeat (first | (refine Br.yes (by first | with_reducible rfl | with_reducible exact beq_self_eq_true _ | rfl) ?_; conv => whnf) | (refine Br.no (by first | with_reducible rfl | with_reducible exact bne_self_eq_false _ | rfl) ?_; conv => whnf))
    exact ⟨hp.fr, congrArg (Value.int .i64) (by unfold cmpF; rw [if_pos (.inl hr)])⟩
  | true =>
    repeat (first | (refine Br.yes (by first | with_reducible rfl | with_reducible exact beq_self_eq_true _ | rfl) ?_; conv => whnf) | (refine Br.no (by first | with_reducible rfl | with_reducible exact bne_self_eq_false _ | rfl) ?_; conv => whnf))
    refine hp.loadA (l := b.cells) (by repeat (first | exact Has.here | apply Has.there | (apply Has.swap; repeat (first | exact HasR.here | apply HasR.there)))) rfl (by rfl) rfl rfl ?_
    conv => whnf
    repeat (first | (refine Br.yes (by first | with_reducible rfl | with_reducible exact beq_self_eq_true _ | rfl) ?_; conv => whnf) | (refine Br.no (by first | with_reducible rfl | with_reducible exact bne_self_eq_false _ | rfl) ?_; conv => whnf))
    refine hp.call (right_spec hp.wf b hb) ?_
    clear hp
    rintro _ s rfl hp _
    conv => whnf
    cases hrb : b.right with
    | false =>
      repeat (first | (refine Br.yes (by first | with_reducible rfl | with_reducible exact beq_self_eq_true _ | rfl) ?_; conv => whnf) | (refine Br.no (by first | with_reducible rfl | with_reducible exact bne_self_eq_false _ | rfl) ?_; conv => whnf))
      refine Sm.ofW ?_
      conv => whnf
      repeat (first | (refine Br.yes (by first | with_reducible rfl | with_reducible exact beq_self_eq_true _ | rfl) ?_; conv => whnf) | (refine Br.no (by first | with_reducible rfl | with_reducible exact bne_self_eq_false _ | rfl) ?_; conv => whnf))
      exact ⟨hp.fr, congrArg (Value.int .i64) (by unfold cmpF; rw [if_pos (.inr hrb)])⟩
    | true =>
      obtain ⟨a1, a2, a3⟩ := Dc.right_c hr
      obtain ⟨b1, b2, b3⟩ := Dc.right_c hrb
      repeat (first | (refine Br.yes (by first | with_reducible rfl | with_reducible exact beq_self_eq_true _ | rfl) ?_; conv => whnf) | (refine Br.no (by first | with_reducible rfl | with_reducible exact bne_self_eq_false _ | rfl) ?_; conv => whnf))
      refine Sm.ofW ?_
      conv => whnf
      repeat (first | (refine Br.yes (by first | with_reducible rfl | with_reducible exact beq_self_eq_true _ | rfl) ?_; conv => whnf) | (refine Br.no (by first | with_reducible rfl | with_reducible exact bne_self_eq_false _ | rfl) ?_; conv => whnf))
      refine Sm.seqW ?_
      conv => whnf
      refine ⟨[0, 1, 0, 7, 15, 31], by decide +kernel, by decide +kernel, ?_⟩
      conv => whnf
      refine hp.loadA (l := a.cells) (by repeat (first | exact Has.here | apply Has.there | (apply Has.swap; repeat (first | exact HasR.here | apply HasR.there)))) rfl (by rfl) rfl rfl ?_
      conv => whnf
      refine hp.rst.call (dsign_spec hp.rst.wf a ha) ?_
      rintro _ s1 rfl h1 k1
      conv => whnf
      refine hp.dkN h1 k1 ?_
      clear hp h1 k1
      intro s hp
      conv => whnf
      refine hp.loadA (l := b.cells) (by repeat (first | exact Has.here | apply Has.there | (apply Has.swap; repeat (first | exact HasR.here | apply HasR.there)))) rfl (by rfl) rfl rfl ?_
      conv => whnf
      refine hp.rst.call (dsign_spec hp.rst.wf b hb) ?_
      rintro _ s1 rfl h1 k1
      conv => whnf
      refine hp.dkN h1 k1 ?_
      clear hp h1 k1
      intro s hp
      conv => whnf
      refine Sm.live [2, 3, 5, 6] ?_
      conv => whnf
      refine Sm.seq ?_
      refine Sm.seqW ?_
      conv => whnf
      refine Sm.ofW ?_
      conv => whnf
      by_cases hs : signF a = signF b
      · refine Br.no (bne_eq_false_iff_eq.2 hs) ?_
        conv => whnf
        refine Sm.seqW ?_
        conv => whnf
        refine hp.load (v := .int .i64 a.scale) (by repeat (first | exact Has.here | apply Has.there | (apply Has.swap; repeat (first | exact HasR.here | apply HasR.there)))) (by rfl) rfl rfl rfl ?_
        conv => whnf
        refine hp.load (v := .int .i64 b.scale) (by repeat (first | exact Has.here | apply Has.there | (apply Has.swap; repeat (first | exact HasR.here | apply HasR.there)))) (by rfl) rfl rfl rfl ?_
        conv => whnf
        have em : (if a.scale < b.scale then b.scale else a.scale) = max a.scale b.scale := by split <;> omega
        have em2 : (if b.scale > a.scale then b.scale else a.scale) = max a.scale b.scale := em
        rw [em2]
        generalize hS : max a.scale b.scale = S at *
        refine Sm.live [2, 3, 5, 7] ?_
        conv => whnf
        refine Sm.seqW ?_
        conv => whnf
        refine ⟨[0, 0, 3, 0, 0, 31, 63, 0, 255, 511], by decide +kernel, by decide +kernel, ?_⟩
        conv => whnf
        refine hp.loadA (l := a.cells) (by repeat (first | exact Has.here | apply Has.there | (apply Has.swap; repeat (first | exact HasR.here | apply HasR.there)))) rfl (by rfl) rfl rfl ?_
        conv => whnf
        refine hp.rst.call (wide_at hp.rst.wf ha hr (S := S) (by omega) (by omega)) ?_
        rintro _ s1 rfl h1 k1
        conv => whnf
        refine hp.dkN h1 k1 ?_
        clear hp h1 k1
        intro s hp
        conv => whnf
        refine hp.loadA (l := b.cells) (by repeat (first | exact Has.here | apply Has.there | (apply Has.swap; repeat (first | exact HasR.here | apply HasR.there)))) rfl (by rfl) rfl rfl ?_
        conv => whnf
        refine hp.rst.call (wide_at hp.rst.wf hb hrb (S := S) (by omega) (by omega)) ?_
        rintro _ s1 rfl h1 k1
        conv => whnf
        refine hp.dkN h1 k1 ?_
        clear hp h1 k1
        intro s hp
        conv => whnf
        have wa := wide_small (S := S) a1 (by omega)
        have wb := wide_small (S := S) b1 (by omega)
        refine hp.rst.call (dcmp_spec hp.rst.wf (a := a.c * 10 ^ (S - a.scale).toNat) (b := b.c * 10 ^ (S - b.scale).toNat) (by simp only [w256] at *; omega) (by simp only [w256] at *; omega)) ?_
        rintro _ s1 rfl h1 k1
        conv => whnf
        refine hp.dkN h1 k1 ?_
        clear hp h1 k1
        intro s hp
        conv => whnf
        refine Sm.ofW ?_
        conv => whnf
        refine ⟨hp.fr, congrArg (Value.int .i64) ?_⟩
        rw [cmp_same hr hrb hs, hS]
        rcases cmpI_cases (a.c * 10 ^ (S - a.scale).toNat) (b.c * 10 ^ (S - b.scale).toNat) with e | e | e <;> rcases (up_sign S hr).2.2.2 with g | g | g <;> rw [e, g] <;> rfl
      · refine Br.yes (bne_iff_ne.2 hs) ?_
        conv => whnf
        by_cases hlt : signF a < signF b
        · refine Br.yes (decide_eq_true hlt) ?_
          conv => whnf
          exact ⟨hp.fr, congrArg (Value.int .i64) (by rw [cmp_sign hr hrb hs, if_pos hlt])⟩
        · refine Br.no (decide_eq_false hlt) ?_
          conv => whnf
          exact ⟨hp.fr, congrArg (Value.int .i64) (by rw [cmp_sign hr hrb hs, if_neg hlt])⟩
theorem decAdd_spec {z : St} (wf : WF z) (a b : Dc) (ha : a.c < w128) (hb : b.c < w128) : Cw Tryz.prog 27 [a.val, b.val] z fun r s' => K0 z s' ∧ r = addF a b := by
  have hp : Hp (fun _ => False) z [] [] z := Hp.start _ wf _ (by simp)
  refine Cw.enterS Tryz.func27 rfl rfl ?_
  refine Sm.seqW ?_
  conv => whnf
  refine hp.var (cs := a.cells) (e := 4) rfl rfl ?_
  clear hp
  intro p2 s hp _
  conv => whnf
  refine hp.var (cs := b.cells) (e := 4) rfl rfl ?_
  clear hp
  intro p3 s hp _
  conv => whnf
  refine hp.alloc (cs := Dc.zero.cells) (e := 4) rfl rfl rfl rfl rfl ?_
  clear hp
  intro p4 s hp _
  conv => whnf
  refine Sm.live [2, 3, 4] ?_
  conv => whnf
  refine Sm.seq ?_
  refine Sm.seqW ?_
  conv => whnf
  refine hp.loadA (l := a.cells) (by repeat (first | exact Has.here | apply Has.there | (apply Has.swap; repeat (first | exact HasR.here | apply HasR.there)))) rfl (by rfl) rfl rfl ?_
  conv => whnf
  refine hp.call (right_spec hp.wf a ha) ?_
  clear hp
  rintro _ s rfl hp _
  conv => whnf
  cases hr : a.right with
  | false =>
    repeat (first | (refine Br.yes (by first | with_reducible rfl | with_reducible exact beq_self_eq_true _ | rfl) ?_; conv => whnf) | (refine Br.no (by first | with_reducible rfl | with_reducible exact bne_self_eq_false _ | rfl) ?_; conv => whnf))
    refine Sm.ofW ?_
    conv => whnf
    repeat (first | (refine Br.yes (by first | with_reducible rfl | with_reducible exact beq_self_eq_true _ | rfl) ?_; conv => whnf) | (refine Br.no (by first | with_reducible rfl | with_reducible exact bne_self_eq_false _ | rfl) ?_; conv => whnf))
    refine hp.storeW (vs := Dc.zero.cells) rfl (by repeat (first | exact Rm.here | apply Rm.there)) (by first | exact C2_same _ _ _ _ | exact C4_same _ _ _ _ _ _ _ _ | exact Dc_same _ _ | rfl) rfl rfl rfl ?_
    clear hp
    intro s hp _
    conv => whnf
    refine hp.loadA (l := Dc.zero.cells) (by repeat (first | exact Has.here | apply Has.there | (apply Has.swap; repeat (first | exact HasR.here | apply HasR.there)))) rfl (by rfl) rfl rfl ?_
    conv => whnf
    exact ⟨hp.fr, by unfold addF; rw [if_pos (.inl hr)]; rfl⟩
  | true =>
    repeat (first | (refine Br.yes (by first | with_reducible rfl | with_reducible exact beq_self_eq_true _ | rfl) ?_; conv => whnf) | (refine Br.no (by first | with_reducible rfl | with_reducible exact bne_self_eq_false _ | rfl) ?_; conv => whnf))
    refine hp.loadA (l := b.cells) (by repeat (first | exact Has.here | apply Has.there | (apply Has.swap; repeat (first | exact HasR.here | apply HasR.there)))) rfl (by rfl) rfl rfl ?_
    conv => whnf
    repeat (first | (refine Br.yes (by first | with_reducible rfl | with_reducible exact beq_self_eq_true _ | rfl) ?_; conv => whnf) | (refine Br.no (by first | with_reducible rfl | with_reducible exact bne_self_eq_false _ | rfl) ?_; conv => whnf))
    refine hp.call (right_spec hp.wf b hb) ?_
    clear hp
    rintro _ s rfl hp _
    conv => whnf
    cases hrb : b.right with
    | false =>
      repeat (first | (refine Br.yes (by first | with_reducible rfl | with_reducible exact beq_self_eq_true _ | rfl) ?_; conv => whnf) | (refine Br.no (by first | with_reducible rfl | with_reducible exact bne_self_eq_false _ | rfl) ?_; conv => whnf))
      refine Sm.ofW ?_
      conv => whnf
      repeat (first | (refine Br.yes (by first | with_reducible rfl | with_reducible exact beq_self_eq_true _ | rfl) ?_; conv => whnf) | (refine Br.no (by first | with_reducible rfl | with_reducible exact bne_self_eq_false _ | rfl) ?_; conv => whnf))
      refine hp.storeW (vs := Dc.zero.cells) rfl (by repeat (first | exact Rm.here | apply Rm.there)) (by first | exact C2_same _ _ _ _ | exact C4_same _ _ _ _ _ _ _ _ | exact Dc_same _ _ | rfl) rfl rfl rfl ?_
      clear hp
      intro s hp _
      conv => whnf
      refine hp.loadA (l := Dc.zero.cells) (by repeat (first | exact Has.here | apply Has.there | (apply Has.swap; repeat (first | exact HasR.here | apply HasR.there)))) rfl (by rfl) rfl rfl ?_
      conv => whnf
      exact ⟨hp.fr, by unfold addF; rw [if_pos (.inr hrb)]; rfl⟩
    | true =>
      obtain ⟨a1, a2, a3⟩ := Dc.right_c hr
      obtain ⟨b1, b2, b3⟩ := Dc.right_c hrb
      repeat (first | (refine Br.yes (by first | with_reducible rfl | with_reducible exact beq_self_eq_true _ | rfl) ?_; conv => whnf) | (refine Br.no (by first | with_reducible rfl | with_reducible exact bne_self_eq_false _ | rfl) ?_; conv => whnf))
      refine Sm.ofW ?_
      conv => whnf
      repeat (first | (refine Br.yes (by first | with_reducible rfl | with_reducible exact beq_self_eq_true _ | rfl) ?_; conv => whnf) | (refine Br.no (by first | with_reducible rfl | with_reducible exact bne_self_eq_false _ | rfl) ?_; conv => whnf))
      refine Sm.seqW ?_
      conv => whnf
      refine hp.load (v := .int .i64 a.scale) (by repeat (first | exact Has.here | apply Has.there | (apply Has.swap; repeat (first | exact HasR.here | apply HasR.there)))) (by rfl) rfl rfl rfl ?_
      conv => whnf
      refine hp.load (v := .int .i64 b.scale) (by repeat (first | exact Has.here | apply Has.there | (apply Has.swap; repeat (first | exact HasR.here | apply HasR.there)))) (by rfl) rfl rfl rfl ?_
      conv => whnf
      have em2 : (if b.scale > a.scale then b.scale else a.scale) = max a.scale b.scale := by split <;> omega
      have hfin : addF a b = mkI (up a (max a.scale b.scale) + up b (max a.scale b.scale)) (max a.scale b.scale) := by unfold addF; rw [if_neg (by simp [hr, hrb])]
      rw [em2]
      generalize hS : max a.scale b.scale = S at *
      have wa := wide_small (S := S) a1 (by omega)
      have wb := wide_small (S := S) b1 (by omega)
      have hsame := add_same (a := a) (b := b) (S := S)
      have hleft := add_left (a := a) (b := b) (S := S)
      have hright := add_right (a := a) (b := b) (S := S)
      refine Sm.live [2, 3, 4, 6] ?_
      conv => whnf
      refine Sm.seqW ?_
      conv => whnf
      refine ⟨[0, 0, 3, 0, 0, 31, 0, 0, 255, 511], by decide +kernel, by decide +kernel, ?_⟩
      conv => whnf
      refine hp.loadA (l := a.cells) (by repeat (first | exact Has.here | apply Has.there | (apply Has.swap; repeat (first | exact HasR.here | apply HasR.there)))) rfl (by rfl) rfl rfl ?_
      conv => whnf
      refine hp.rst.call (wide_at hp.rst.wf ha hr (S := S) (by omega) (by omega)) ?_
      rintro _ s1 rfl h1 k1
      conv => whnf
      refine hp.dkN h1 k1 ?_
      clear hp h1 k1
      intro s hp
      conv => whnf
      refine hp.loadA (l := b.cells) (by repeat (first | exact Has.here | apply Has.there | (apply Has.swap; repeat (first | exact HasR.here | apply HasR.there)))) rfl (by rfl) rfl rfl ?_
      conv => whnf
      refine hp.rst.call (wide_at hp.rst.wf hb hrb (S := S) (by omega) (by omega)) ?_
      rintro _ s1 rfl h1 k1
      conv => whnf
      refine hp.dkN h1 k1 ?_
      clear hp h1 k1
      intro s hp
      conv => whnf
      generalize a.c * 10 ^ (S - a.scale).toNat = x at *
      generalize b.c * 10 ^ (S - b.scale).toNat = y at *
      refine hp.rst.alloc (cs := C4 0 0 0 0) (e := 1) rfl rfl rfl rfl rfl ?_
      intro p7 s1 h1 k1
      conv => whnf
      refine hp.dkN h1 k1 ?_
      clear hp h1 k1
      intro s hp
      conv => whnf
      refine hp.rst.alloc (cs := C4 0 0 0 0) (e := 1) rfl rfl rfl rfl rfl ?_
      intro p8 s1 h1 k1
      conv => whnf
      refine hp.dkN h1 k1 ?_
      clear hp h1 k1
      intro s hp
      conv => whnf
      refine hp.rst.storeW (vs := C4 (x % w64) (x / w64 % w64) (x / w128 % w64) (x / w192)) rfl (by repeat (first | exact Rm.here | apply Rm.there)) (by first | exact C2_same _ _ _ _ | exact C4_same _ _ _ _ _ _ _ _ | exact Dc_same _ _ | rfl) rfl rfl rfl ?_
      intro s1 h1 l1
      conv => whnf
      refine hp.dkW h1 l1 ?_
      clear hp h1 l1
      intro s hp
      conv => whnf
      refine hp.rst.storeW (vs := C4 (y % w64) (y / w64 % w64) (y / w128 % w64) (y / w192)) rfl (by repeat (first | exact Rm.here | apply Rm.there)) (by first | exact C2_same _ _ _ _ | exact C4_same _ _ _ _ _ _ _ _ | exact Dc_same _ _ | rfl) rfl rfl rfl ?_
      intro s1 h1 l1
      conv => whnf
      refine hp.dkW h1 l1 ?_
      clear hp h1 l1
      intro s hp
      conv => whnf
      refine Sm.live [2, 3, 4, 6, 7, 8] ?_
      conv => whnf
      refine Sm.seq ?_
      refine Sm.block ?_
      refine Sm.seqW ?_
      conv => whnf
      refine hp.load (v := .bool a.neg) (by repeat (first | exact Has.here | apply Has.there | (apply Has.swap; repeat (first | exact HasR.here | apply HasR.there)))) (by rfl) rfl rfl rfl ?_
      conv => whnf
      refine hp.load (v := .bool b.neg) (by repeat (first | exact Has.here | apply Has.there | (apply Has.swap; repeat (first | exact HasR.here | apply HasR.there)))) (by rfl) rfl rfl rfl ?_
      conv => whnf
      refine Om.of _ (rfl) ?_
      conv => whnf
      refine Sm.ofW ?_
      conv => whnf
      have xw : x < w256 := by simp only [w256] at *; omega
      have yw : y < w256 := by simp only [w256] at *; omega
      by_cases hn : a.neg = b.neg
      · refine Br.yes (beq_iff_eq.2 hn) ?_
        conv => whnf
        refine ⟨[0, 1, 0, 0, 12, 0, 63, 127, 127, 511, 1023], by decide +kernel, by decide +kernel, ?_⟩
        conv => whnf
        refine hp.load (v := .bool a.neg) (by repeat (first | exact Has.here | apply Has.there | (apply Has.swap; repeat (first | exact HasR.here | apply HasR.there)))) (by rfl) rfl rfl rfl ?_
        conv => whnf
        refine hp.loadA (l := C4 (x % w64) (x / w64 % w64) (x / w128 % w64) (x / w192)) (by repeat (first | exact Has.here | apply Has.there | (apply Has.swap; repeat (first | exact HasR.here | apply HasR.there)))) rfl (by rfl) rfl rfl ?_
        conv => whnf
        refine hp.loadA (l := C4 (y % w64) (y / w64 % w64) (y / w128 % w64) (y / w192)) (by repeat (first | exact Has.here | apply Has.there | (apply Has.swap; repeat (first | exact HasR.here | apply HasR.there)))) rfl (by rfl) rfl rfl ?_
        conv => whnf
        refine hp.rst.call (dplus_spec hp.rst.wf wa wb) ?_
        rintro _ s1 rfl h1 k1
        conv => whnf
        refine hp.dkN h1 k1 ?_
        clear hp h1 k1
        intro s hp
        conv => whnf
        refine hp.rst.call (dmade_spec hp.rst.wf a.neg (n := x + y) (by simp only [w256] at *; omega) S) ?_
        rintro _ s1 rfl h1 k1
        conv => whnf
        refine hp.dkN h1 k1 ?_
        clear hp h1 k1
        intro s hp
        conv => whnf
        rw [hsame hn, ← hfin]
        obtain ⟨r, re, hx⟩ := addF_shape a b
        rw [hx]
        conv => whnf
        refine hp.rst.storeW (vs := r.cells) rfl (by repeat (first | exact Rm.here | apply Rm.there)) (by first | exact C2_same _ _ _ _ | exact C4_same _ _ _ _ _ _ _ _ | exact Dc_same _ _ | rfl) rfl rfl rfl ?_
        intro s1 h1 l1
        conv => whnf
        refine hp.dkW h1 l1 ?_
        clear hp h1 l1
        intro s hp
        conv => whnf
        refine hp.loadA (l := r.cells) (by repeat (first | exact Has.here | apply Has.there | (apply Has.swap; repeat (first | exact HasR.here | apply HasR.there)))) rfl (by rfl) rfl rfl ?_
        conv => whnf
        exact ⟨hp.fr, rfl⟩
      · refine Br.no (beq_eq_false_iff_ne.2 hn) ?_
        conv => whnf
        refine hp.loadA (l := C4 (x % w64) (x / w64 % w64) (x / w128 % w64) (x / w192)) (by repeat (first | exact Has.here | apply Has.there | (apply Has.swap; repeat (first | exact HasR.here | apply HasR.there)))) rfl (by rfl) rfl rfl ?_
        conv => whnf
        refine hp.loadA (l := C4 (y % w64) (y / w64 % w64) (y / w128 % w64) (y / w192)) (by repeat (first | exact Has.here | apply Has.there | (apply Has.swap; repeat (first | exact HasR.here | apply HasR.there)))) rfl (by rfl) rfl rfl ?_
        conv => whnf
        refine hp.call (dcmp_spec hp.wf xw yw) ?_
        clear hp
        rintro _ s rfl hp _
        conv => whnf
        by_cases hle : y ≤ x
        · have hc : decide (cmpI x y ≥ 0) = true := decide_eq_true (by unfold cmpI; rw [if_neg (by omega)]; split <;> decide)
          refine Br.yes (hc) ?_
          conv => whnf
          refine ⟨[0, 1, 0, 0, 12, 0, 63, 127, 127, 511, 1023], by decide +kernel, by decide +kernel, ?_⟩
          conv => whnf
          refine hp.load (v := .bool a.neg) (by repeat (first | exact Has.here | apply Has.there | (apply Has.swap; repeat (first | exact HasR.here | apply HasR.there)))) (by rfl) rfl rfl rfl ?_
          conv => whnf
          refine hp.loadA (l := C4 (x % w64) (x / w64 % w64) (x / w128 % w64) (x / w192)) (by repeat (first | exact Has.here | apply Has.there | (apply Has.swap; repeat (first | exact HasR.here | apply HasR.there)))) rfl (by rfl) rfl rfl ?_
          conv => whnf
          refine hp.loadA (l := C4 (y % w64) (y / w64 % w64) (y / w128 % w64) (y / w192)) (by repeat (first | exact Has.here | apply Has.there | (apply Has.swap; repeat (first | exact HasR.here | apply HasR.there)))) rfl (by rfl) rfl rfl ?_
          conv => whnf
          refine hp.rst.call (dless_spec hp.rst.wf xw hle) ?_
          rintro _ s1 rfl h1 k1
          conv => whnf
          refine hp.dkN h1 k1 ?_
          clear hp h1 k1
          intro s hp
          conv => whnf
          refine hp.rst.call (dmade_spec hp.rst.wf a.neg (n := x - y) (by omega) S) ?_
          rintro _ s1 rfl h1 k1
          conv => whnf
          refine hp.dkN h1 k1 ?_
          clear hp h1 k1
          intro s hp
          conv => whnf
          rw [hleft hn hle, ← hfin]
          obtain ⟨r, re, hx⟩ := addF_shape a b
          rw [hx]
          conv => whnf
          refine hp.rst.storeW (vs := r.cells) rfl (by repeat (first | exact Rm.here | apply Rm.there)) (by first | exact C2_same _ _ _ _ | exact C4_same _ _ _ _ _ _ _ _ | exact Dc_same _ _ | rfl) rfl rfl rfl ?_
          intro s1 h1 l1
          conv => whnf
          refine hp.dkW h1 l1 ?_
          clear hp h1 l1
          intro s hp
          conv => whnf
          refine hp.loadA (l := r.cells) (by repeat (first | exact Has.here | apply Has.there | (apply Has.swap; repeat (first | exact HasR.here | apply HasR.there)))) rfl (by rfl) rfl rfl ?_
          conv => whnf
          exact ⟨hp.fr, rfl⟩
        · have hc : decide (cmpI x y ≥ 0) = false := decide_eq_false (by unfold cmpI; rw [if_pos (by omega)]; decide)
          refine Br.no (hc) ?_
          conv => whnf
          refine Sm.seqW ?_
          conv => whnf
          refine ⟨[0, 1, 0, 0, 12, 0, 63, 127, 127, 511, 1023], by decide +kernel, by decide +kernel, ?_⟩
          conv => whnf
          refine hp.load (v := .bool b.neg) (by repeat (first | exact Has.here | apply Has.there | (apply Has.swap; repeat (first | exact HasR.here | apply HasR.there)))) (by rfl) rfl rfl rfl ?_
          conv => whnf
          refine hp.loadA (l := C4 (y % w64) (y / w64 % w64) (y / w128 % w64) (y / w192)) (by repeat (first | exact Has.here | apply Has.there | (apply Has.swap; repeat (first | exact HasR.here | apply HasR.there)))) rfl (by rfl) rfl rfl ?_
          conv => whnf
          refine hp.loadA (l := C4 (x % w64) (x / w64 % w64) (x / w128 % w64) (x / w192)) (by repeat (first | exact Has.here | apply Has.there | (apply Has.swap; repeat (first | exact HasR.here | apply HasR.there)))) rfl (by rfl) rfl rfl ?_
          conv => whnf
          refine hp.rst.call (dless_spec hp.rst.wf yw (b := x) (by omega)) ?_
          rintro _ s1 rfl h1 k1
          conv => whnf
          refine hp.dkN h1 k1 ?_
          clear hp h1 k1
          intro s hp
          conv => whnf
          refine hp.rst.call (dmade_spec hp.rst.wf b.neg (n := y - x) (by omega) S) ?_
          rintro _ s1 rfl h1 k1
          conv => whnf
          refine hp.dkN h1 k1 ?_
          clear hp h1 k1
          intro s hp
          conv => whnf
          rw [hright hn (by omega), ← hfin]
          obtain ⟨r, re, hx⟩ := addF_shape a b
          rw [hx]
          conv => whnf
          refine hp.rst.storeW (vs := r.cells) rfl (by repeat (first | exact Rm.here | apply Rm.there)) (by first | exact C2_same _ _ _ _ | exact C4_same _ _ _ _ _ _ _ _ | exact Dc_same _ _ | rfl) rfl rfl rfl ?_
          intro s1 h1 l1
          conv => whnf
          refine hp.dkW h1 l1 ?_
          clear hp h1 l1
          intro s hp
          conv => whnf
          refine Sm.ofW ?_
          conv => whnf
          refine hp.loadA (l := r.cells) (by repeat (first | exact Has.here | apply Has.there | (apply Has.swap; repeat (first | exact HasR.here | apply HasR.there)))) rfl (by rfl) rfl rfl ?_
          conv => whnf
          exact ⟨hp.fr, rfl⟩
end Go.Ev
end

/- Decimals as whole numbers at a scale, without a program. No condition. -/
noncomputable section
namespace Go.Ev
open Go.Proofs
variable [Lk]
set_option linter.unusedSectionVars false
set_option linter.unusedVariables false

/-- A decimal of a whole number at a scale. -/
def mkD (x : Int) (S : Int) : Dc := ⟨decide (x < 0), x.natAbs, S⟩
theorem mkD_right {x S : Int} (h : x.natAbs < 10 ^ 30) (h1 : 0 ≤ S) (h2 : S ≤ 9) : (mkD x S).right = true := by
  unfold mkD Dc.right
  simp only [h, decide_true, Bool.true_and, Bool.and_eq_true, decide_eq_true_eq, Bool.not_eq_true', Bool.and_eq_false_iff, decide_eq_false_iff_not]
  exact ⟨h1, h2, by omega⟩
theorem mkI_ok {x S : Int} (h : x.natAbs < 10 ^ 30) : mkI x S = okD (mkD x S) := by
  unfold mkI
  rw [dmade_ok h]
  have : (decide (x < 0) && !decide (x.natAbs = 0)) = decide (x < 0) := by
    by_cases g : x < 0
    · rw [decide_eq_false (show ¬ x.natAbs = 0 by omega)]; simp
    · rw [decide_eq_false g]; rfl
  rw [this]; rfl
theorem up_mkD (x S T : Int) : up (mkD x S) T = x * 10 ^ (T - S).toNat := by
  unfold up mkD
  have e : ((10 : Int) ^ (T - S).toNat) = ((10 ^ (T - S).toNat : Nat) : Int) := by push_cast; rfl
  rw [e]
  generalize 10 ^ (T - S).toNat = g
  by_cases h : x < 0
  · rw [if_pos (by simpa using h), Int.natCast_mul, show ((x.natAbs : Nat) : Int) = -x by omega, Int.neg_mul, Int.neg_neg]
  · rw [if_neg (by simpa using h), Int.natCast_mul, show ((x.natAbs : Nat) : Int) = x by omega]
theorem addF_mkD {x y S T : Int} (hx : x.natAbs < 10 ^ 30) (hy : y.natAbs < 10 ^ 30) (s1 : 0 ≤ S) (s2 : S ≤ 9) (t1 : 0 ≤ T) (t2 : T ≤ 9) :
    addF (mkD x S) (mkD y T) = mkI (x * 10 ^ (max S T - S).toNat + y * 10 ^ (max S T - T).toNat) (max S T) := by
  unfold addF
  rw [if_neg (by simp [mkD_right hx s1 s2, mkD_right hy t1 t2]), up_mkD, up_mkD]
  rfl
end Go.Ev
end

/- Rounded numbers with their signs. No condition. -/
noncomputable section
namespace Go.Ev
open Go.Proofs
variable [Lk]
set_option linter.unusedSectionVars false
set_option linter.unusedVariables false
set_option maxRecDepth 100000

end Go.Ev
end

/- QuantUnits walked. No condition. -/
noncomputable section
namespace Go.Ev
open Go.Proofs
variable [Lk]
set_option linter.unusedSectionVars false
set_option linter.unusedVariables false
set_option maxRecDepth 100000

end Go.Ev
end

/- Texts: HasPrefix, CutPrefix, Cut at one byte. No condition. -/
noncomputable section
namespace Go.Ev
open Go.Proofs
variable [Lk]
set_option linter.unusedSectionVars false
set_option linter.unusedVariables false
set_option maxRecDepth 100000

/-- A text of these bytes. -/
abbrev sv (l : List UInt8) : Value := .string ⟨l.toArray⟩
theorem str_index {P : Program} {t : TypeId} (hu : P.underlying t = some .string) {l : List UInt8} {i : Nat} (h : i < l.length) (k : IntKind) : evIndex P t (sv l) (.int k (i : Int)) = some (.int .u8 ((l[i].toNat : Nat) : Int)) := by
  show (match P.underlying t, sv l, Value.int k (.ofNat i) with
    | some (.array n e), .agg cs, .int _ (.ofNat i) => match Nat.blt i n, P.info? e with
      | true, some j => partL P e cs.toList (i * j.size)
      | _, _ => none
    | some .string, .string s, .int _ (.ofNat i) => match (bs s)[i]? with
      | some b => some (.int .u8 b.toNat)
      | none => none
    | _, _, _ => none) = _
  rw [hu]
  simp only [bs_mk, List.getElem?_eq_getElem h]
theorem str_slice {P : Program} {t : TypeId} (hu : P.underlying t = some .string) {l : List UInt8} (k1 k2 : IntKind) (lo hi : Option Nat) (h1 : lo.getD 0 ≤ hi.getD l.length) (h2 : hi.getD l.length ≤ l.length) :
    evSliceStr P t (sv l) (bndV k1 lo) (bndV k2 hi) = some (sv ((l.drop (lo.getD 0)).take (hi.getD l.length - lo.getD 0))) := by
  have hb : bnds l.length l.length (bndV k1 lo) (bndV k2 hi) none = some (lo.getD 0, hi.getD l.length, l.length) := by
    unfold bnds
    cases lo <;> cases hi <;> simp only [bndV, Option.getD_none, Option.getD_some] at h1 h2 ⊢
    · rw [bnd_nat h2]
    · rw [bnd_nat h1]
    · rw [bnd_nat h2]; simp only; rw [bnd_nat h1]
  unfold evSliceStr
  rw [hu]
  simp only [bs_mk, hb]
theorem str_take {P : Program} {t : TypeId} (hu : P.underlying t = some .string) {l : List UInt8} (k : IntKind) {j : Nat} (h : j ≤ l.length) : evSliceStr P t (sv l) none (some (.int k (j : Int))) = some (sv (l.take j)) := by
  have := str_slice hu (l := l) k k none (some j) (by simp) (by simpa using h)
  simpa [bndV] using this
theorem str_drop {P : Program} {t : TypeId} (hu : P.underlying t = some .string) {l : List UInt8} (k : IntKind) {j : Nat} (h : j ≤ l.length) : evSliceStr P t (sv l) (some (.int k (j : Int))) none = some (sv (l.drop j)) := by
  have := str_slice hu (l := l) k k (some j) none (by simpa using h) (by simp)
  simp only [bndV, Option.getD_some, Option.getD_none] at this
  rw [this, List.take_of_length_le (by simp)]
theorem sv_eq {P : Program} {t : TypeId} {c : Bool} (a b : List UInt8) : evBin P .eql t c (sv a) (sv b) = some (.bool (a == b)) := str_eq _ _
theorem sv_ne {P : Program} {t : TypeId} {c : Bool} (a b : List UInt8) : evBin P .neq t c (sv a) (sv b) = some (.bool (!(a == b))) := str_ne _ _
def hasP (l p : List UInt8) : Bool := decide (p.length ≤ l.length) && (l.take p.length == p)
theorem hasPrefix_spec (s : St) (l p : List UInt8) : Cw Tryz.prog 159 [sv l, sv p] s fun r s' => s' = s ∧ r = .bool (hasP l p) := by
  refine Cw.enterS Tryz.func159 rfl rfl ?_
  refine Sm.seqW ?_
  conv => whnf
  refine Sm.seqW ?_
  conv => whnf
  unfold hasP
  by_cases h : p.length ≤ l.length
  · have hd : decide ((l.length : Int) ≥ (p.length : Int)) = true := decide_eq_true (by omega)
    repeat (refine Br.yes hd ?_; conv => whnf)
    refine Om.of _ (str_take Tryz.underlying9 .i64 h) ?_
    conv => whnf
    repeat (refine Br.yes hd ?_; conv => whnf)
    refine Om.of _ (sv_eq (l.take p.length) p) ?_
    conv => whnf
    repeat (refine Br.yes hd ?_; conv => whnf)
    refine Sm.ofW ?_
    conv => whnf
    rw [decide_eq_true h]
    exact ⟨rfl, rfl⟩
  · have hd : decide ((l.length : Int) ≥ (p.length : Int)) = false := decide_eq_false (by omega)
    repeat (refine Br.no hd ?_; conv => whnf)
    refine Sm.ofW ?_
    conv => whnf
    rw [decide_eq_false h]
    exact ⟨rfl, rfl⟩
def cutP (l p : List UInt8) : Value := if hasP l p = true then .tuple #[sv (l.drop p.length), .bool true] else .tuple #[sv l, .bool false]
theorem lcutPrefix_spec (s : St) (l p : List UInt8) : Cw Tryz.prog 118 [sv l, sv p] s fun r s' => s' = s ∧ r = cutP l p := by
  refine Cw.enterS Tryz.func118 rfl rfl ?_
  refine Sm.seqW ?_
  conv => whnf
  refine Sm.seq ?_
  refine Sm.seqW ?_
  conv => whnf
  refine (hasPrefix_spec _ l p).mono ?_
  rintro _ s1 ⟨h1, rfl⟩
  obtain rfl := h1.symm
  conv => whnf
  refine Sm.ofW ?_
  conv => whnf
  unfold cutP
  cases h : hasP l p with
  | false =>
    repeat (first | (refine Br.yes (by first | with_reducible rfl | with_reducible exact beq_self_eq_true _ | rfl) ?_; conv => whnf) | (refine Br.no (by first | with_reducible rfl | with_reducible exact bne_self_eq_false _ | rfl) ?_; conv => whnf))
    exact ⟨rfl, rfl⟩
  | true =>
    have hl : p.length ≤ l.length := by
      unfold hasP at h
      simp only [Bool.and_eq_true, decide_eq_true_eq] at h
      exact h.1
    repeat (first | (refine Br.yes (by first | with_reducible rfl | with_reducible exact beq_self_eq_true _ | rfl) ?_; conv => whnf) | (refine Br.no (by first | with_reducible rfl | with_reducible exact bne_self_eq_false _ | rfl) ?_; conv => whnf))
    refine Sm.seqW ?_
    conv => whnf
    refine Om.of _ (str_drop Tryz.underlying9 .i64 hl) ?_
    conv => whnf
    refine Sm.ofW ?_
    conv => whnf
    exact ⟨rfl, rfl⟩
theorem cutPrefix_spec (s : St) (l p : List UInt8) : Cw Tryz.prog 71 [sv l, sv p] s fun r s' => s' = s ∧ r = cutP l p := by
  refine Cw.enterS Tryz.func71 rfl rfl ?_
  refine Sm.seqW ?_
  conv => whnf
  refine Sm.seqW ?_
  conv => whnf
  refine (lcutPrefix_spec _ l p).mono ?_
  rintro r s1 ⟨h1, hr⟩
  obtain rfl := h1.symm
  unfold cutP at hr ⊢
  cases h : hasP l p with
  | false =>
    rw [h] at hr
    subst hr
    conv => whnf
    refine Sm.ofW ?_
    conv => whnf
    exact ⟨rfl, rfl⟩
  | true =>
    rw [h] at hr
    subst hr
    conv => whnf
    refine Sm.ofW ?_
    conv => whnf
    exact ⟨rfl, rfl⟩
end Go.Ev
end

/- Texts: IndexByte, Index and Cut at one byte. No condition. -/
noncomputable section
namespace Go.Ev
open Go.Proofs
variable [Lk]
set_option linter.unusedSectionVars false
set_option linter.unusedVariables false
set_option maxRecDepth 100000

theorem idxL_some {c : Nat} : ∀ {l : List UInt8} {i j : Nat}, idxL c l i = some j → ∃ k, j = i + k ∧ ∃ h : k < l.length, l[k].toNat = c ∧ ∀ m, (hm : m < k) → (l[m]'(by omega)).toNat ≠ c
  | [], i, j, h => by cases h
  | x :: xs, i, j, h => by
    unfold idxL at h
    split at h
    · rename_i hb
      injection h with h
      exact ⟨0, by omega, by simp, Nat.eq_of_beq_eq_true hb, fun m hm => by omega⟩
    · rename_i hb
      obtain ⟨k, h1, h2, h3, h4⟩ := idxL_some h
      refine ⟨k + 1, by omega, by simp; omega, by simpa using h3, fun m hm => ?_⟩
      cases m with
      | zero => intro e; rw [show ((x :: xs)[0]'(by simp)) = x from rfl] at e; rw [e, Nat.beq_refl] at hb; cases hb
      | succ m => simpa using h4 m (by omega)
def ixI (o : Option Nat) : Int := match o with
  | some i => (i : Int)
  | none => -1
theorem ibs_spec (s : St) (l : List UInt8) (c : UInt8) : Cw Tryz.prog 197 [sv l, .int .u8 ((c.toNat : Nat) : Int)] s fun r s' => s' = s ∧ r = .int .i64 (ixI (idxL c.toNat l 0)) := by
  refine ⟨⟨_, s, ⟨rfl, rfl⟩, .inr (.inl ⟨rfl, _, Tryz.func197, rfl, ?_⟩)⟩⟩
  have hc : Nat.blt c.toNat 256 = true := blt_of c.toNat_lt
  have : evExt "internal/bytealg.IndexByteString" [sv l, .int .u8 ((c.toNat : Nat) : Int)] = some (.int .i64 (ixI (idxL c.toNat l 0))) := by
    unfold evExt
    rw [show ("internal/bytealg.IndexByteString" == "internal/bytealg.IndexByteString") = true from rfl]
    show (match Nat.blt c.toNat 256 with
      | true => match idxL c.toNat (bs ⟨l.toArray⟩) 0 with
        | some i => some (Value.int .i64 (.ofNat i))
        | none => some (Value.int .i64 (.negSucc 0))
      | false => none) = _
    rw [hc, bs_mk]
    cases idxL c.toNat l 0 <;> rfl
  exact this
theorem indexByte_spec (s : St) (l : List UInt8) (c : UInt8) : Cw Tryz.prog 177 [sv l, .int .u8 ((c.toNat : Nat) : Int)] s fun r s' => s' = s ∧ r = .int .i64 (ixI (idxL c.toNat l 0)) := by
  refine Cw.enterS Tryz.func177 rfl rfl ?_
  refine Sm.seqW ?_
  conv => whnf
  refine Sm.seqW ?_
  conv => whnf
  refine (ibs_spec _ l c).mono ?_
  rintro _ s1 ⟨h1, rfl⟩
  obtain rfl := h1.symm
  conv => whnf
  refine Sm.ofW ?_
  conv => whnf
  exact ⟨rfl, rfl⟩
theorem index1_spec (s : St) (l : List UInt8) (c : UInt8) : Cw Tryz.prog 160 [sv l, sv [c]] s fun r s' => s' = s ∧ r = .int .i64 (ixI (idxL c.toNat l 0)) := by
  refine Cw.enterS Tryz.func160 rfl rfl ?_
  refine Sm.seqW ?_
  conv => whnf
  refine Sm.seqW ?_
  conv => whnf
  refine Sm.seq ?_
  refine Sm.block ?_
  refine Sm.seqW ?_
  conv => whnf
  repeat (first | (refine Br.yes (by first | with_reducible rfl | with_reducible exact beq_self_eq_true _ | rfl) ?_; conv => whnf) | (refine Br.no (by first | with_reducible rfl | with_reducible exact bne_self_eq_false _ | rfl) ?_; conv => whnf))
  refine Om.of _ (sv_eq [c] l) ?_
  conv => whnf
  repeat (first | (refine Br.yes (by first | with_reducible rfl | with_reducible exact beq_self_eq_true _ | rfl) ?_; conv => whnf) | (refine Br.no (by first | with_reducible rfl | with_reducible exact bne_self_eq_false _ | rfl) ?_; conv => whnf))
  refine Sm.ofW ?_
  conv => whnf
  by_cases he : l = [c]
  · subst he
    have hq : (([c] : List UInt8) == [c]) = true := beq_self_eq_true _
    rw [hq]
    repeat (first | (refine Br.yes (by first | with_reducible rfl | with_reducible exact beq_self_eq_true _ | rfl) ?_; conv => whnf) | (refine Br.no (by first | with_reducible rfl | with_reducible exact bne_self_eq_false _ | rfl) ?_; conv => whnf))
    have hi : ixI (idxL c.toNat [c] 0) = 0 := by
      unfold idxL
      rw [Nat.beq_refl]; rfl
    rw [hi]
    exact ⟨rfl, rfl⟩
  have hq : (([c] : List UInt8) == l) = false := beq_eq_false_iff_ne.2 fun h => he h.symm
  rw [hq]
  repeat (first | (refine Br.yes (by first | with_reducible rfl | with_reducible exact beq_self_eq_true _ | rfl) ?_; conv => whnf) | (refine Br.no (by first | with_reducible rfl | with_reducible exact bne_self_eq_false _ | rfl) ?_; conv => whnf))
  refine Om.of _ (str_index Tryz.underlying9 (l := [c]) (i := 0) (by simp) .i64) ?_
  conv => whnf
  refine (indexByte_spec _ l c).mono ?_
  rintro _ s1 ⟨h1, rfl⟩
  obtain rfl := h1.symm
  conv => whnf
  exact ⟨rfl, rfl⟩
end Go.Ev
end

/- Texts: Cut at one byte; a set of figures; Trim. No condition. -/
noncomputable section
namespace Go.Ev
open Go.Proofs
variable [Lk]
set_option linter.unusedSectionVars false
set_option linter.unusedVariables false
set_option maxRecDepth 100000

def cutF (l : List UInt8) (c : UInt8) : Value := match idxL c.toNat l 0 with
  | some i => .tuple #[sv (l.take i), sv (l.drop (i + 1)), .bool true]
  | none => .tuple #[sv l, sv [], .bool false]
theorem lcut_spec (s : St) (l : List UInt8) (hl : l.length < 4611686018427387904) (c : UInt8) : Cw Tryz.prog 119 [sv l, sv [c]] s fun r s' => s' = s ∧ r = cutF l c := by
  refine Cw.enterS Tryz.func119 rfl rfl ?_
  refine Sm.seqW ?_
  conv => whnf
  refine Sm.seq ?_
  refine Sm.seqW ?_
  conv => whnf
  refine (index1_spec _ l c).mono ?_
  rintro _ s1 ⟨h1, rfl⟩
  obtain rfl := h1.symm
  conv => whnf
  refine Sm.seqW ?_
  conv => whnf
  refine Sm.ofW ?_
  conv => whnf
  unfold cutF
  cases hi : idxL c.toNat l 0 with
  | none =>
    repeat (first | (refine Br.yes (by first | with_reducible rfl | with_reducible exact beq_self_eq_true _ | rfl) ?_; conv => whnf) | (refine Br.no (by first | with_reducible rfl | with_reducible exact bne_self_eq_false _ | rfl) ?_; conv => whnf))
    refine Sm.seqW ?_
    conv => whnf
    refine Sm.ofW ?_
    conv => whnf
    exact ⟨rfl, rfl⟩
  | some i =>
    obtain ⟨k, h1, h2, h3, h4⟩ := idxL_some hi
    have hk : i < l.length := by omega
    have hd : decide (ixI (some i) ≥ 0) = true := decide_eq_true (by show (i : Int) ≥ 0; omega)
    refine Br.yes (hd) ?_
    conv => whnf
    refine ⟨[0, 0, 3, 0, 0, 0, 32, 112, 248, 7, 1023, 2047], by decide +kernel, by decide +kernel, ?_⟩
    conv => whnf
    have e1 : IntKind.i64.wrap (ixI (some i) + (([c] : List UInt8).length : Int)) = ((i + 1 : Nat) : Int) := by
      show IntKind.i64.wrap ((i : Int) + 1) = _
      rw [wi64 (by omega) (by omega)]; push_cast; rfl
    refine Om.of _ (str_take Tryz.underlying9 (l := l) (j := i) .i64 (by omega)) ?_
    conv => whnf
    have e2 : IntKind.i64.wrap (ixI (some i) + ((bs ⟨#[c]⟩).length : Int)) = ((i + 1 : Nat) : Int) := e1
    rw [e2]
    refine Om.of _ (str_drop Tryz.underlying9 (l := l) (j := i + 1) .i64 (by omega)) ?_
    conv => whnf
    exact ⟨rfl, rfl⟩
theorem cut_spec (s : St) (l : List UInt8) (hl : l.length < 4611686018427387904) (c : UInt8) : Cw Tryz.prog 72 [sv l, sv [c]] s fun r s' => s' = s ∧ r = cutF l c := by
  refine Cw.enterS Tryz.func72 rfl rfl ?_
  refine Sm.seqW ?_
  conv => whnf
  refine Sm.seqW ?_
  conv => whnf
  refine (lcut_spec _ l hl c).mono ?_
  rintro r s1 ⟨h1, hr⟩
  obtain rfl := h1.symm
  unfold cutF at hr ⊢
  cases hi : idxL c.toNat l 0 with
  | none =>
    rw [hi] at hr
    subst hr
    conv => whnf
    refine Sm.ofW ?_
    conv => whnf
    exact ⟨rfl, rfl⟩
  | some i =>
    rw [hi] at hr
    subst hr
    conv => whnf
    refine Sm.ofW ?_
    conv => whnf
    exact ⟨rfl, rfl⟩
/-! ### the figures' set -/
def isD (b : UInt8) : Bool := decide (48 ≤ b.toNat ∧ b.toNat ≤ 57)
def natB (l : List Bool) : List Value := l.map Value.bool
def figB (i : Nat) : List Bool := (List.range 256).map fun k => decide (48 ≤ k ∧ k < 48 + i)
abbrev figs : List UInt8 := [48, 49, 50, 51, 52, 53, 54, 55, 56, 57]
theorem figB_len (i : Nat) : (figB i).length = 256 := by simp [figB]
theorem natB_len (l : List Bool) : (natB l).length = l.length := by simp [natB]
theorem natB_set (l : List Bool) (k : Nat) (b : Bool) : (natB l).set k (.bool b) = natB (l.set k b) := by simp [natB, List.map_set]
theorem figB_step : ∀ i, i < 10 → (figB i).set (48 + i) true = figB (i + 1) := by decide +kernel
theorem figs_at : ∀ i, (h : i < 10) → (figs[i]'h).toNat = 48 + i := by decide +kernel
theorem figB_get {k : Nat} (h : k < 256) : (natB (figB 10))[k]? = some (.bool (decide (48 ≤ k ∧ k ≤ 57))) := by
  unfold natB figB
  rw [List.map_map, List.getElem?_map, List.getElem?_range h]
  show some (Value.bool (decide (48 ≤ k ∧ k < 48 + 10))) = _
  have : decide (48 ≤ k ∧ k < 48 + 10) = decide (48 ≤ k ∧ k ≤ 57) := decide_eq_decide.2 (by omega)
  rw [this]
theorem asciiSet_spec {z : St} (wf : WF z) : Cw Tryz.prog 163 [sv figs] z fun r s' => K0 z s' ∧ r = .tuple #[.agg (natB (figB 10)).toArray, .bool true] := by
  have hp : Hp (fun _ => False) z [] [] z := Hp.start _ wf _ (by simp)
  refine Cw.enterS Tryz.func163 rfl rfl ?_
  refine Sm.seqW ?_
  conv => whnf
  refine hp.alloc (cs := natB (figB 0)) (e := 1) rfl rfl rfl (by kernel_rfl) rfl ?_
  clear hp
  intro p2 s hp _
  conv => whnf
  refine Sm.live [0, 2] ?_
  conv => whnf
  refine Sm.seq ?_
  refine Sm.seqW ?_
  conv => whnf
  refine Sm.block ?_
  refine Sm.loop ?_
  refine Lp.ofS (α := Nat) (fun i => [(0, sv figs), (2, .pointer (some ⟨p2, 0, none⟩)), (4, .int .i64 (i : Int))])
    (fun i s' => i ≤ 10 ∧ Hp (fun _ => False) z [] [blkA p2 p2 (natB (figB i)) 1] s') (fun i => 10 - i) ?_ 0 (subK_ok (by refine ⟨rfl, rfl, rfl, trivial⟩)) ⟨by decide, hp⟩
  clear hp
  rintro i s ⟨hi, hp⟩
  refine Sm.seq ?_
  refine Sm.seqW ?_
  conv => whnf
  refine Sm.ofW ?_
  conv => whnf
  refine Br.mk (fun hc => ?_) (fun hc => ?_)
  · have hc : i < 10 := by have h : (i : Int) < 10 := of_decide_eq_true hc; omega
    conv => whnf
    refine Sm.seq ?_
    refine Sm.block ?_
    refine Sm.seqW ?_
    conv => whnf
    refine Om.of _ (str_index Tryz.underlying9 (l := figs) (i := i) hc .i64) ?_
    conv => whnf
    rw [figs_at i hc]
    refine Sm.live [0, 2, 4, 5] ?_
    conv => whnf
    refine Sm.seq ?_
    refine Sm.seqW ?_
    conv => whnf
    refine Sm.ofW ?_
    conv => whnf
    refine Br.no (decide_eq_false (by omega)) ?_
    conv => whnf
    refine Sm.ofW ?_
    conv => whnf
    have hix : evIndexAddr Tryz.prog 227 (.pointer (some ⟨p2, 0, none⟩)) (.int .u8 ((48 + i : Nat) : Int)) = some (.pointer (some ⟨p2, 0 + (48 + i), none⟩)) := ixA Tryz.underlying227 (by rfl) rfl .u8 (by omega)
    refine Om.of _ (hix) ?_
    conv => whnf
    refine hp.store (by repeat (first | exact Rm.here | apply Rm.there)) (by rw [natB_len, figB_len]; omega) rfl rfl rfl rfl ?_
    clear hp
    intro s hp _
    rw [show 0 + (48 + i) = 48 + i by omega, natB_set, figB_step i hc] at hp
    conv => whnf
    refine Sm.ofW ?_
    conv => whnf
    have ei : IntKind.i64.wrap ((i : Int) + 1) = ((i + 1 : Nat) : Int) := by rw [wi64 (by omega) (by omega)]; push_cast; rfl
    exact ⟨i + 1, by (show 10 - (i + 1) < 10 - i); omega, subK_ok (by refine ⟨rfl, rfl, congrArg (fun x => some (Value.int .i64 x)) ei, trivial⟩), by omega, hp⟩
  · have hc : ¬ i < 10 := by have h : ¬ (i : Int) < 10 := of_decide_eq_false hc; omega
    obtain rfl : i = 10 := by omega
    conv => whnf
    refine Sm.seqW ?_
    conv => whnf
    refine hp.loadA (l := natB (figB 10)) (by repeat (first | exact Has.here | apply Has.there | (apply Has.swap; repeat (first | exact HasR.here | apply HasR.there)))) rfl (sl_all (by rw [natB_len, figB_len]; rfl)) rfl rfl ?_
    conv => whnf
    refine hp.storeW (vs := natB (figB 10)) rfl (by repeat (first | exact Rm.here | apply Rm.there)) rfl rfl (by rw [natB_len, figB_len]; rfl) (by kernel_rfl) ?_
    clear hp
    intro s hp _
    conv => whnf
    refine Sm.ofW ?_
    conv => whnf
    refine hp.loadA (l := natB (figB 10)) (by repeat (first | exact Has.here | apply Has.there | (apply Has.swap; repeat (first | exact HasR.here | apply HasR.there)))) rfl (sl_all (by rw [natB_len, figB_len]; rfl)) rfl rfl ?_
    conv => whnf
    exact ⟨hp.fr, rfl⟩
theorem contains_spec {s : St} {k p e : Nat} (hb : Blk s k p (natB (figB 10)) e) (c : UInt8) : Cw Tryz.prog 188 [.pointer (some ⟨p, 0, none⟩), .int .u8 ((c.toNat : Nat) : Int)] s fun r s' => s' = s ∧ r = .bool (isD c) := by
  have hc := c.toNat_lt
  refine Cw.enterS Tryz.func188 rfl rfl ?_
  refine Sm.seqW ?_
  conv => whnf
  refine Sm.seqW ?_
  conv => whnf
  have hix : evIndexAddr Tryz.prog 227 (.pointer (some ⟨p, 0, none⟩)) (.int .u8 ((c.toNat : Nat) : Int)) = some (.pointer (some ⟨p, 0 + c.toNat, none⟩)) := ixA Tryz.underlying227 (by rfl) rfl .u8 hc
  refine Om.of _ (hix) ?_
  conv => whnf
  refine Om.of _ (load_cell (v := .bool (isD c)) Tryz.underlying4 rfl rfl hb.rd (by rw [Nat.zero_add]; exact figB_get hc)) ?_
  conv => whnf
  refine Sm.ofW ?_
  conv => whnf
  exact ⟨rfl, rfl⟩
end Go.Ev
end

/- Texts: Trim of figures; dec.run. No condition. -/
noncomputable section
namespace Go.Ev
open Go.Proofs
variable [Lk]
set_option linter.unusedSectionVars false
set_option linter.unusedVariables false
set_option maxRecDepth 100000

def dropR (l : List UInt8) : List UInt8 := (l.reverse.dropWhile isD).reverse
theorem dropR_snoc (l : List UInt8) {c : UInt8} (h : isD c = true) : dropR (l ++ [c]) = dropR l := by simp [dropR, h]
theorem dropR_keep (l : List UInt8) {c : UInt8} (h : isD c = false) : dropR (l ++ [c]) = l ++ [c] := by simp [dropR, h]
theorem dw_all : ∀ L : List UInt8, (∀ x ∈ L.dropWhile isD, isD x = true) → ∀ x ∈ L, isD x = true
  | [], _ => by simp
  | a :: L, h => by
    by_cases ha : isD a = true
    · rw [List.dropWhile_cons_of_pos ha] at h
      intro x hx
      rcases List.mem_cons.1 hx with rfl | hx
      · exact ha
      · exact dw_all L h x hx
    · rw [List.dropWhile_cons_of_neg ha] at h
      exact absurd (h a (by simp)) ha
theorem dw_nil : ∀ L : List UInt8, L.dropWhile isD = [] ↔ ∀ x ∈ L, isD x = true
  | [] => by simp
  | a :: L => by
    by_cases ha : isD a = true
    · rw [List.dropWhile_cons_of_pos ha, dw_nil L]
      simp [ha]
    · rw [List.dropWhile_cons_of_neg ha]
      simp [ha]
theorem trim_nil (l : List UInt8) : ((dropR l).dropWhile isD == []) = l.all isD := by
  rw [Bool.eq_iff_iff, beq_iff_eq, dw_nil, List.all_eq_true]
  unfold dropR
  constructor
  · intro h x hx
    exact dw_all l.reverse (fun y hy => h y (by simpa using hy)) x (by simpa using hx)
  · intro h x hx
    rw [List.mem_reverse] at hx
    exact h x (by simpa using (List.dropWhile_sublist isD).subset hx)
theorem trimLeft_spec {s : St} {k p e : Nat} (hb : Blk s k p (natB (figB 10)) e) (l : List UInt8) : Cw Tryz.prog 164 [sv l, .pointer (some ⟨p, 0, none⟩)] s fun r s' => s' = s ∧ r = sv (l.dropWhile isD) := by
  refine Cw.enterS Tryz.func164 rfl rfl ?_
  refine Sm.seqW ?_
  conv => whnf
  refine Sm.seq ?_
  refine Sm.block ?_
  refine Sm.loop ?_
  refine Lp.ofS (α := List UInt8) (fun m => [(0, sv m), (1, .pointer (some ⟨p, 0, none⟩))]) (fun m s' => s' = s ∧ l.dropWhile isD = m.dropWhile isD) (fun m => m.length) ?_ l (subK_ok (by refine ⟨rfl, rfl, trivial⟩)) ⟨rfl, rfl⟩
  rintro m s1 ⟨h1, hm⟩
  obtain rfl := h1.symm
  cases m with
  | nil =>
    refine Sm.seq ?_
    refine Sm.seqW ?_
    conv => whnf
    refine Sm.ofW ?_
    conv => whnf
    repeat (first | (refine Br.yes (by first | with_reducible rfl | with_reducible exact beq_self_eq_true _ | rfl) ?_; conv => whnf) | (refine Br.no (by first | with_reducible rfl | with_reducible exact bne_self_eq_false _ | rfl) ?_; conv => whnf))
    refine Sm.seqW ?_
    conv => whnf
    refine Sm.ofW ?_
    conv => whnf
    exact ⟨rfl, by rw [hm]; rfl⟩
  | cons c m =>
    have hd : decide ((((c :: m) : List UInt8).length : Int) > 0) = true := decide_eq_true (by simp)
    refine Sm.seq ?_
    refine Sm.seqW ?_
    conv => whnf
    refine Sm.ofW ?_
    conv => whnf
    refine Br.yes (hd) ?_
    conv => whnf
    refine Sm.block ?_
    refine Sm.seq ?_
    refine Sm.seqW ?_
    conv => whnf
    refine Om.of _ (str_index Tryz.underlying9 (l := c :: m) (i := 0) (by simp) .i64) ?_
    conv => whnf
    refine (contains_spec hb c).mono ?_
    rintro _ s1 ⟨h1, rfl⟩
    obtain rfl := h1.symm
    conv => whnf
    refine Sm.ofW ?_
    conv => whnf
    cases hcd : isD c with
    | false =>
      repeat (first | (refine Br.yes (by first | with_reducible rfl | with_reducible exact beq_self_eq_true _ | rfl) ?_; conv => whnf) | (refine Br.no (by first | with_reducible rfl | with_reducible exact bne_self_eq_false _ | rfl) ?_; conv => whnf))
      refine Sm.seqW ?_
      conv => whnf
      refine Sm.ofW ?_
      conv => whnf
      refine ⟨rfl, ?_⟩
      rw [hm, List.dropWhile_cons_of_neg (by rw [hcd]; decide)]
      rfl
    | true =>
      repeat (first | (refine Br.yes (by first | with_reducible rfl | with_reducible exact beq_self_eq_true _ | rfl) ?_; conv => whnf) | (refine Br.no (by first | with_reducible rfl | with_reducible exact bne_self_eq_false _ | rfl) ?_; conv => whnf))
      refine Sm.ofW ?_
      conv => whnf
      refine Om.of _ (str_drop Tryz.underlying9 (l := c :: m) (j := 1) .i64 (by simp)) ?_
      conv => whnf
      exact ⟨m, by simp, subK_ok (by refine ⟨rfl, rfl, trivial⟩), rfl, by rw [hm, List.dropWhile_cons_of_pos hcd]⟩
theorem trimRight_spec {s : St} {k p e : Nat} (hb : Blk s k p (natB (figB 10)) e) (l : List UInt8) (hl : l.length < 4611686018427387904) : Cw Tryz.prog 165 [sv l, .pointer (some ⟨p, 0, none⟩)] s fun r s' => s' = s ∧ r = sv (dropR l) := by
  refine Cw.enterS Tryz.func165 rfl rfl ?_
  refine Sm.seqW ?_
  conv => whnf
  refine Sm.seq ?_
  refine Sm.block ?_
  refine Sm.loop ?_
  refine Lp.ofS (α := List UInt8) (fun m => [(0, sv m), (1, .pointer (some ⟨p, 0, none⟩))]) (fun m s' => s' = s ∧ m.length ≤ l.length ∧ dropR l = dropR m) (fun m => m.length) ?_ l (subK_ok (by refine ⟨rfl, rfl, trivial⟩)) ⟨rfl, Nat.le_refl _, rfl⟩
  rintro m s1 ⟨h1, hml, hm⟩
  obtain rfl := h1.symm
  by_cases h0 : m = []
  · subst h0
    refine Sm.seq ?_
    refine Sm.seqW ?_
    conv => whnf
    refine Sm.ofW ?_
    conv => whnf
    repeat (first | (refine Br.yes (by first | with_reducible rfl | with_reducible exact beq_self_eq_true _ | rfl) ?_; conv => whnf) | (refine Br.no (by first | with_reducible rfl | with_reducible exact bne_self_eq_false _ | rfl) ?_; conv => whnf))
    refine Sm.seqW ?_
    conv => whnf
    refine Sm.ofW ?_
    conv => whnf
    exact ⟨rfl, by rw [hm]; rfl⟩
  · obtain ⟨m, c, rfl⟩ : ∃ m' c, m = m' ++ [c] := ⟨m.dropLast, m.getLast h0, (List.dropLast_concat_getLast h0).symm⟩
    have hlen : (m ++ [c]).length = m.length + 1 := by simp
    have hd : decide (((m ++ [c]).length : Int) > 0) = true := decide_eq_true (by omega)
    have ek : IntKind.i64.wrap (((bs ⟨(m ++ [c]).toArray⟩).length : Int) - 1) = (m.length : Int) := by rw [bs_mk, hlen, wi64 (by omega) (by omega)]; omega
    have hg : (m ++ [c])[m.length]'(by omega) = c := by simp
    refine Sm.seq ?_
    refine Sm.seqW ?_
    conv => whnf
    refine Sm.ofW ?_
    conv => whnf
    refine Br.yes (hd) ?_
    conv => whnf
    refine Sm.block ?_
    refine Sm.seq ?_
    refine Sm.seqW ?_
    conv => whnf
    rw [ek]
    refine Om.of _ (str_index Tryz.underlying9 (l := m ++ [c]) (i := m.length) (by omega) .i64) ?_
    conv => whnf
    rw [hg]
    refine (contains_spec hb c).mono ?_
    rintro _ s1 ⟨h1, rfl⟩
    obtain rfl := h1.symm
    conv => whnf
    refine Sm.ofW ?_
    conv => whnf
    cases hcd : isD c with
    | false =>
      repeat (first | (refine Br.yes (by first | with_reducible rfl | with_reducible exact beq_self_eq_true _ | rfl) ?_; conv => whnf) | (refine Br.no (by first | with_reducible rfl | with_reducible exact bne_self_eq_false _ | rfl) ?_; conv => whnf))
      refine Sm.seqW ?_
      conv => whnf
      refine Sm.ofW ?_
      conv => whnf
      refine ⟨rfl, ?_⟩
      rw [hm, dropR_keep m hcd]
      rfl
    | true =>
      repeat (first | (refine Br.yes (by first | with_reducible rfl | with_reducible exact beq_self_eq_true _ | rfl) ?_; conv => whnf) | (refine Br.no (by first | with_reducible rfl | with_reducible exact bne_self_eq_false _ | rfl) ?_; conv => whnf))
      refine Sm.ofW ?_
      conv => whnf
      rw [ek]
      refine Om.of _ (str_take Tryz.underlying9 (l := m ++ [c]) (j := m.length) .i64 (by omega)) ?_
      conv => whnf
      have ht : (m ++ [c]).take m.length = m := by simp
      rw [ht]
      conv => whnf
      exact ⟨m, by (show m.length < (m ++ [c]).length); omega, subK_ok (by refine ⟨rfl, rfl, trivial⟩), rfl, by omega, by rw [hm, dropR_snoc m hcd]⟩
theorem trimF_spec {z : St} (wf : WF z) (l : List UInt8) (hl : l.length < 4611686018427387904) : Cw Tryz.prog 120 [sv l, sv figs] z fun r s' => K0 z s' ∧ r = sv ((dropR l).dropWhile isD) := by
  have hp : Hp (fun _ => False) z [] [] z := Hp.start _ wf _ (by simp)
  refine Cw.enterS Tryz.func120 rfl rfl ?_
  refine Sm.seqW ?_
  conv => whnf
  refine Sm.seq ?_
  refine Sm.seqW ?_
  conv => whnf
  refine Om.of _ (sv_eq l []) ?_
  conv => whnf
  by_cases h0 : l = []
  · subst h0
    have hq : (([] : List UInt8) == []) = true := rfl
    rw [hq]
    repeat (first | (refine Br.yes (by first | with_reducible rfl | with_reducible exact beq_self_eq_true _ | rfl) ?_; conv => whnf) | (refine Br.no (by first | with_reducible rfl | with_reducible exact bne_self_eq_false _ | rfl) ?_; conv => whnf))
    refine Sm.ofW ?_
    conv => whnf
    repeat (first | (refine Br.yes (by first | with_reducible rfl | with_reducible exact beq_self_eq_true _ | rfl) ?_; conv => whnf) | (refine Br.no (by first | with_reducible rfl | with_reducible exact bne_self_eq_false _ | rfl) ?_; conv => whnf))
    exact ⟨hp.fr, rfl⟩
  have hq : (l == []) = false := beq_eq_false_iff_ne.2 h0
  rw [hq]
  repeat (first | (refine Br.yes (by first | with_reducible rfl | with_reducible exact beq_self_eq_true _ | rfl) ?_; conv => whnf) | (refine Br.no (by first | with_reducible rfl | with_reducible exact bne_self_eq_false _ | rfl) ?_; conv => whnf))
  refine Om.of _ (sv_eq figs []) ?_
  conv => whnf
  repeat (first | (refine Br.yes (by first | with_reducible rfl | with_reducible exact beq_self_eq_true _ | rfl) ?_; conv => whnf) | (refine Br.no (by first | with_reducible rfl | with_reducible exact bne_self_eq_false _ | rfl) ?_; conv => whnf))
  refine Sm.ofW ?_
  conv => whnf
  repeat (first | (refine Br.yes (by first | with_reducible rfl | with_reducible exact beq_self_eq_true _ | rfl) ?_; conv => whnf) | (refine Br.no (by first | with_reducible rfl | with_reducible exact bne_self_eq_false _ | rfl) ?_; conv => whnf))
  refine Sm.seq ?_
  refine Sm.seqW ?_
  conv => whnf
  repeat (first | (refine Br.yes (by first | with_reducible rfl | with_reducible exact beq_self_eq_true _ | rfl) ?_; conv => whnf) | (refine Br.no (by first | with_reducible rfl | with_reducible exact bne_self_eq_false _ | rfl) ?_; conv => whnf))
  refine Sm.ofW ?_
  conv => whnf
  repeat (first | (refine Br.yes (by first | with_reducible rfl | with_reducible exact beq_self_eq_true _ | rfl) ?_; conv => whnf) | (refine Br.no (by first | with_reducible rfl | with_reducible exact bne_self_eq_false _ | rfl) ?_; conv => whnf))
  refine Sm.seq ?_
  refine Sm.seqW ?_
  conv => whnf
  refine hp.call (asciiSet_spec hp.wf) ?_
  clear hp
  rintro _ s rfl hp _
  conv => whnf
  refine hp.alloc (cs := natB (figB 0)) (e := 1) rfl rfl rfl (by kernel_rfl) rfl ?_
  clear hp
  intro p5 s hp _
  conv => whnf
  refine hp.storeW (C := natB (figB 0)) (vs := natB (figB 10)) rfl (by repeat (first | exact Rm.here | apply Rm.there)) (by rw [natB_len, natB_len, figB_len, figB_len]) rfl (by rw [natB_len, figB_len]; rfl) (by kernel_rfl) ?_
  clear hp
  intro s hp _
  conv => whnf
  refine Sm.seqW ?_
  conv => whnf
  refine Sm.ofW ?_
  conv => whnf
  repeat (first | (refine Br.yes (by first | with_reducible rfl | with_reducible exact beq_self_eq_true _ | rfl) ?_; conv => whnf) | (refine Br.no (by first | with_reducible rfl | with_reducible exact bne_self_eq_false _ | rfl) ?_; conv => whnf))
  refine (trimRight_spec (hp.blk (k := p5) (by repeat (first | exact Has.here | apply Has.there | (apply Has.swap; repeat (first | exact HasR.here | apply HasR.there))))) l hl).mono ?_
  rintro _ s1 ⟨h1, rfl⟩
  obtain rfl := h1.symm
  conv => whnf
  refine (trimLeft_spec (hp.blk (k := p5) (by repeat (first | exact Has.here | apply Has.there | (apply Has.swap; repeat (first | exact HasR.here | apply HasR.there))))) (dropR l)).mono ?_
  rintro _ s1 ⟨h1, rfl⟩
  obtain rfl := h1.symm
  conv => whnf
  exact ⟨hp.fr, rfl⟩
def runF (l : List UInt8) (most : Nat) : Bool := !(l == []) && (decide (l.length ≤ most) && l.all isD)
theorem run_spec {z : St} (wf : WF z) (l : List UInt8) (hl : l.length < 4611686018427387904) (most : Nat) : Cw Tryz.prog 73 [sv l, .int .i64 (most : Int)] z fun r s' => K0 z s' ∧ r = .bool (runF l most) := by
  have hp : Hp (fun _ => False) z [] [] z := Hp.start _ wf _ (by simp)
  refine Cw.enterS Tryz.func73 rfl rfl ?_
  refine Sm.seqW ?_
  conv => whnf
  refine Sm.seqW ?_
  conv => whnf
  refine Om.of _ (sv_ne l []) ?_
  conv => whnf
  unfold runF
  by_cases h0 : l = []
  · subst h0
    have hq : (!(([] : List UInt8) == [])) = false := rfl
    rw [hq]
    repeat (first | (refine Br.yes (by first | with_reducible rfl | with_reducible exact beq_self_eq_true _ | rfl) ?_; conv => whnf) | (refine Br.no (by first | with_reducible rfl | with_reducible exact bne_self_eq_false _ | rfl) ?_; conv => whnf))
    refine Sm.ofW ?_
    conv => whnf
    exact ⟨hp.fr, rfl⟩
  have hq : (!(l == [])) = true := by rw [beq_eq_false_iff_ne.2 h0]; rfl
  rw [hq]
  repeat (first | (refine Br.yes (by first | with_reducible rfl | with_reducible exact beq_self_eq_true _ | rfl) ?_; conv => whnf) | (refine Br.no (by first | with_reducible rfl | with_reducible exact bne_self_eq_false _ | rfl) ?_; conv => whnf))
  by_cases hm : l.length ≤ most
  · have hd : decide ((l.length : Int) ≤ (most : Int)) = true := decide_eq_true (by omega)
    repeat (first | (refine Br.yes hd ?_; conv => whnf) | (first | (refine Br.yes (by first | with_reducible rfl | with_reducible exact beq_self_eq_true _ | rfl) ?_; conv => whnf) | (refine Br.no (by first | with_reducible rfl | with_reducible exact bne_self_eq_false _ | rfl) ?_; conv => whnf)))
    refine hp.call (trimF_spec hp.wf l hl) ?_
    clear hp
    rintro _ s rfl hp _
    conv => whnf
    repeat (first | (refine Br.yes hd ?_; conv => whnf) | (first | (refine Br.yes (by first | with_reducible rfl | with_reducible exact beq_self_eq_true _ | rfl) ?_; conv => whnf) | (refine Br.no (by first | with_reducible rfl | with_reducible exact bne_self_eq_false _ | rfl) ?_; conv => whnf)))
    refine Om.of _ (sv_eq ((dropR l).dropWhile isD) []) ?_
    conv => whnf
    repeat (first | (refine Br.yes hd ?_; conv => whnf) | (first | (refine Br.yes (by first | with_reducible rfl | with_reducible exact beq_self_eq_true _ | rfl) ?_; conv => whnf) | (refine Br.no (by first | with_reducible rfl | with_reducible exact bne_self_eq_false _ | rfl) ?_; conv => whnf)))
    refine Sm.ofW ?_
    conv => whnf
    refine ⟨hp.fr, congrArg Value.bool ?_⟩
    rw [trim_nil, decide_eq_true hm]
    rfl
  · have hd : decide ((l.length : Int) ≤ (most : Int)) = false := decide_eq_false (by omega)
    repeat (first | (refine Br.no hd ?_; conv => whnf) | (first | (refine Br.yes (by first | with_reducible rfl | with_reducible exact beq_self_eq_true _ | rfl) ?_; conv => whnf) | (refine Br.no (by first | with_reducible rfl | with_reducible exact bne_self_eq_false _ | rfl) ?_; conv => whnf)))
    refine Sm.ofW ?_
    conv => whnf
    refine ⟨hp.fr, congrArg Value.bool ?_⟩
    rw [decide_eq_false hm]
    rfl
end Go.Ev
end

/- dec.Read walked. No condition. -/
noncomputable section
namespace Go.Ev
open Go.Proofs
variable [Lk]
set_option linter.unusedSectionVars false
set_option linter.unusedVariables false
set_option maxRecDepth 100000

/-- What figures are worth. -/
def valD (l : List UInt8) : Nat := l.foldl (fun a b => 10 * a + (b.toNat - 48)) 0
theorem valD_snoc (l : List UInt8) (c : UInt8) : valD (l ++ [c]) = 10 * valD l + (c.toNat - 48) := by simp [valD]
def bodyF (l : List UInt8) : List UInt8 := if hasP l [45] = true then l.drop 1 else l
def wholeF (b : List UInt8) : List UInt8 := match idxL 46 b 0 with
  | some i => b.take i
  | none => b
def restF (b : List UInt8) : List UInt8 := match idxL 46 b 0 with
  | some i => b.drop (i + 1)
  | none => []
def pointF (b : List UInt8) : Bool := (idxL 46 b 0).isSome
def readOk (b : List UInt8) : Bool := runF (wholeF b) 30 && (!pointF b || runF (restF b) 9)
def readF (l : List UInt8) : Value :=
  if readOk (bodyF l) = false then errD 2 else if 10 ^ 30 ≤ valD (wholeF (bodyF l) ++ restF (bodyF l)) then errD 3
  else if (hasP l [45] && decide (valD (wholeF (bodyF l) ++ restF (bodyF l)) = 0)) = true then errD 2 else okD ⟨hasP l [45], valD (wholeF (bodyF l) ++ restF (bodyF l)), (restF (bodyF l)).length⟩
theorem cutP_eq (l : List UInt8) : cutP l [45] = .tuple #[sv (bodyF l), .bool (hasP l [45])] := by
  unfold cutP bodyF
  cases hasP l [45] <;> rfl
theorem cutF_eq (b : List UInt8) : cutF b 46 = .tuple #[sv (wholeF b), sv (restF b), .bool (pointF b)] := by
  unfold cutF wholeF restF pointF
  show (match idxL 46 b 0 with
    | some i => Value.tuple #[sv (b.take i), sv (b.drop (i + 1)), .bool true]
    | none => .tuple #[sv b, sv [], .bool false]) = _
  cases idxL 46 b 0 <;> rfl
theorem body_len (l : List UInt8) : (bodyF l).length ≤ l.length := by
  unfold bodyF; split <;> simp
theorem whole_len (b : List UInt8) : (wholeF b).length ≤ b.length := by
  unfold wholeF; split <;> simp; omega
theorem rest_len (b : List UInt8) : (restF b).length ≤ b.length := by
  unfold restF; split <;> simp
theorem runF_ok {l : List UInt8} {m : Nat} (h : runF l m = true) : l ≠ [] ∧ l.length ≤ m ∧ ∀ x ∈ l, isD x = true := by
  unfold runF at h
  simp only [Bool.and_eq_true, Bool.not_eq_true', beq_eq_false_iff_ne, decide_eq_true_eq, List.all_eq_true] at h
  exact h
theorem readOk_ok {b : List UInt8} (h : readOk b = true) : (wholeF b ++ restF b).length ≤ 39 ∧ ∀ x ∈ wholeF b ++ restF b, isD x = true := by
  unfold readOk at h
  simp only [Bool.and_eq_true, Bool.or_eq_true, Bool.not_eq_true'] at h
  obtain ⟨_, h1, h2⟩ := runF_ok h.1
  rcases h.2 with g | g
  · have : restF b = [] := by
      unfold pointF at g
      unfold restF
      cases hi : idxL 46 b 0 with
      | none => rfl
      | some i => rw [hi] at g; cases g
    rw [this, List.append_nil]
    exact ⟨by omega, h2⟩
  · obtain ⟨_, g1, g2⟩ := runF_ok g
    refine ⟨by simp; omega, fun x hx => ?_⟩
    rcases List.mem_append.1 hx with k | k
    · exact h2 x k
    · exact g2 x k
theorem BD : SlT Tryz.prog 145 5 1 1 (.int .u8 0) := ⟨Tryz.underlying145, ⟨_, rfl, rfl, rfl, rfl⟩, rfl, rfl, by decide, by decide⟩
theorem isD_d {c : UInt8} (h : isD c = true) : 48 ≤ c.toNat ∧ c.toNat ≤ 57 := of_decide_eq_true h
/-- What stands while figures are read. -/
structure RdOk (W : List UInt8) (i c : Nat) (over : Bool) : Prop where
  c30 : c < 10 ^ 30
  ov : over = decide (10 ^ 30 ≤ valD (W.take i))
  val : over = false → c = valD (W.take i)
theorem read_spec {z : St} (wf : WF z) (l : List UInt8) (hl : l.length < 4611686018427387904) : Cw Tryz.prog 30 [sv l] z fun r s' => K0 z s' ∧ r = readF l := by
  have hp : Hp (fun _ => False) z [] [] z := Hp.start _ wf _ (by simp)
  have hb := body_len l
  have hw := whole_len (bodyF l)
  have hr := rest_len (bodyF l)
  refine Cw.enterS Tryz.func30 rfl rfl ?_
  refine Sm.seqW ?_
  conv => whnf
  refine hp.alloc (cs := Dc.zero.cells) (e := 4) rfl rfl rfl rfl rfl ?_
  clear hp
  intro p2 s hp _
  conv => whnf
  refine Sm.live [0, 2] ?_
  conv => whnf
  refine Sm.seqW ?_
  conv => whnf
  refine (cutPrefix_spec _ l [45]).mono ?_
  rintro _ s1 ⟨h1, rfl⟩
  obtain rfl := h1.symm
  conv => whnf
  rw [cutP_eq]
  conv => whnf
  refine Sm.live [2, 4, 5] ?_
  conv => whnf
  refine Sm.seqW ?_
  conv => whnf
  refine (cut_spec _ (bodyF l) (by omega) 46).mono ?_
  rintro _ s1 ⟨h1, rfl⟩
  obtain rfl := h1.symm
  conv => whnf
  rw [cutF_eq]
  conv => whnf
  refine Sm.live [2, 5, 6, 7, 8] ?_
  conv => whnf
  have hread : readF l = if readOk (bodyF l) = false then errD 2 else if 10 ^ 30 ≤ valD (wholeF (bodyF l) ++ restF (bodyF l)) then errD 3
    else if (hasP l [45] && decide (valD (wholeF (bodyF l) ++ restF (bodyF l)) = 0)) = true then errD 2 else okD ⟨hasP l [45], valD (wholeF (bodyF l) ++ restF (bodyF l)), (restF (bodyF l)).length⟩ := rfl
  have hokk := readOk_ok (b := bodyF l)
  have hdef : readOk (bodyF l) = (runF (wholeF (bodyF l)) 30 && (!pointF (bodyF l) || runF (restF (bodyF l)) 9)) := rfl
  generalize wholeF (bodyF l) = W at *
  generalize restF (bodyF l) = R at *
  generalize pointF (bodyF l) = pt at *
  generalize hasP l [45] = ng at *
  generalize readOk (bodyF l) = ok at *
  generalize readF l = RF at *
  refine Sm.seq ?_
  refine Sm.seqC (fun e L' s' => e = .normal ∧ Hp (fun _ => False) z [] [blkA p2 p2 Dc.zero.cells 4] s' ∧ Sub [(2, .pointer (some ⟨p2, 0, none⟩)), (5, .bool ng), (6, sv W), (7, sv R), (37, .bool (!ok))] L') ?_ ?_
  · conv => whnf
    refine hp.call (run_spec hp.wf W (by omega) 30) ?_
    clear hp
    rintro _ s rfl hp _
    conv => whnf
    cases h1 : runF W 30 with
    | false =>
      have : ok = false := by rw [hdef, h1]; rfl
      subst this
      repeat (first | (refine Br.yes (by first | with_reducible rfl | with_reducible exact beq_self_eq_true _ | rfl) ?_; conv => whnf) | (refine Br.no (by first | with_reducible rfl | with_reducible exact bne_self_eq_false _ | rfl) ?_; conv => whnf))
      exact ⟨rfl, hp, subK_ok ⟨rfl, rfl, rfl, rfl, rfl, trivial⟩⟩
    | true =>
      repeat (first | (refine Br.yes (by first | with_reducible rfl | with_reducible exact beq_self_eq_true _ | rfl) ?_; conv => whnf) | (refine Br.no (by first | with_reducible rfl | with_reducible exact bne_self_eq_false _ | rfl) ?_; conv => whnf))
      cases pt with
      | false =>
        have : ok = true := by rw [hdef, h1]; rfl
        subst this
        repeat (first | (refine Br.yes (by first | with_reducible rfl | with_reducible exact beq_self_eq_true _ | rfl) ?_; conv => whnf) | (refine Br.no (by first | with_reducible rfl | with_reducible exact bne_self_eq_false _ | rfl) ?_; conv => whnf))
        exact ⟨rfl, hp, subK_ok ⟨rfl, rfl, rfl, rfl, rfl, trivial⟩⟩
      | true =>
        repeat (first | (refine Br.yes (by first | with_reducible rfl | with_reducible exact beq_self_eq_true _ | rfl) ?_; conv => whnf) | (refine Br.no (by first | with_reducible rfl | with_reducible exact bne_self_eq_false _ | rfl) ?_; conv => whnf))
        refine hp.call (run_spec hp.wf R (by omega) 9) ?_
        clear hp
        rintro _ s rfl hp _
        conv => whnf
        have : ok = runF R 9 := by rw [hdef, h1]; rfl
        rw [← this]
        repeat (first | (refine Br.yes (by first | with_reducible rfl | with_reducible exact beq_self_eq_true _ | rfl) ?_; conv => whnf) | (refine Br.no (by first | with_reducible rfl | with_reducible exact bne_self_eq_false _ | rfl) ?_; conv => whnf))
        exact ⟨rfl, hp, subK_ok ⟨rfl, rfl, rfl, rfl, rfl, trivial⟩⟩
  clear hp
  rintro e L' s ⟨rfl, hp, hs⟩
  refine Sm.weak _ hs ?_
  clear hs
  refine Sm.ofW ?_
  conv => whnf
  cases ok with
  | false =>
    repeat (first | (refine Br.yes (by first | with_reducible rfl | with_reducible exact beq_self_eq_true _ | rfl) ?_; conv => whnf) | (refine Br.no (by first | with_reducible rfl | with_reducible exact bne_self_eq_false _ | rfl) ?_; conv => whnf))
    refine hp.storeW (vs := Dc.zero.cells) rfl (by repeat (first | exact Rm.here | apply Rm.there)) (by first | exact C2_same _ _ _ _ | exact C4_same _ _ _ _ _ _ _ _ | exact Dc_same _ _ | rfl) rfl rfl rfl ?_
    clear hp
    intro s hp _
    conv => whnf
    refine hp.loadA (l := Dc.zero.cells) (by repeat (first | exact Has.here | apply Has.there | (apply Has.swap; repeat (first | exact HasR.here | apply HasR.there)))) rfl (by rfl) rfl rfl ?_
    conv => whnf
    refine ⟨hp.fr, ?_⟩
    rw [hread, if_pos rfl]
    rfl
  | true =>
    rw [if_neg (by decide)] at hread
    obtain ⟨h39, hall⟩ := hokk rfl
    repeat (first | (refine Br.yes (by first | with_reducible rfl | with_reducible exact beq_self_eq_true _ | rfl) ?_; conv => whnf) | (refine Br.no (by first | with_reducible rfl | with_reducible exact bne_self_eq_false _ | rfl) ?_; conv => whnf))
    refine Sm.seqW ?_
    conv => whnf
    refine hp.call (lOf_spec hp.wf (a := 0) (by decide)) ?_
    clear hp
    rintro _ s rfl hp _
    conv => whnf
    refine hp.alloc (cs := C2 0 0) (e := 1) rfl rfl rfl rfl rfl ?_
    clear hp
    intro p9 s hp _
    conv => whnf
    refine hp.storeW (vs := C2 (0 % w64) (0 / w64)) rfl (by repeat (first | exact Rm.here | apply Rm.there)) (by first | exact C2_same _ _ _ _ | exact C4_same _ _ _ _ _ _ _ _ | exact Dc_same _ _ | rfl) rfl rfl rfl ?_
    clear hp
    intro s hp _
    conv => whnf
    refine Sm.live [2, 5, 6, 7, 9, 10] ?_
    conv => whnf
    refine Sm.seq ?_
    refine Sm.seqW ?_
    conv => whnf
    refine Om.of _ (str_add ⟨W.toArray⟩ ⟨R.toArray⟩ (by rw [bs_mk, bs_mk]; simp at h39; omega)) ?_
    conv => whnf
    have e0 : bs ⟨(bs ⟨W.toArray⟩ ++ bs ⟨R.toArray⟩).toArray⟩ = W ++ R := rfl
    refine hp.bytesOf Tryz.underlying9 Tryz.underlying145 Tryz.underlying5 ⟨(bs ⟨W.toArray⟩ ++ bs ⟨R.toArray⟩).toArray⟩ ?_
    clear hp
    intro pb s hp _
    rw [e0] at hp ⊢
    generalize hWR : W ++ R = Y at *
    conv => whnf
    refine Sm.block ?_
    refine Sm.loop ?_
    refine Lp.ofS (α := Nat × Nat × Bool) (fun x => [(2, .pointer (some ⟨p2, 0, none⟩)), (5, .bool ng), (7, sv R), (9, .pointer (some ⟨p9, 0, none⟩)), (10, .bool x.2.2), (43, .slice (some ⟨pb, 0, none⟩) Y.length Y.length), (44, .int .i64 (Y.length : Int)), (45, .int .i64 (x.1 : Int))])
      (fun x s' => x.1 ≤ Y.length ∧ RdOk Y x.1 x.2.1 x.2.2 ∧ Hp (fun _ => False) z [] [blkA pb pb (byteVals Y) 1, blkA p9 p9 (C2 (x.2.1 % w64) (x.2.1 / w64)) 1, blkA p2 p2 Dc.zero.cells 4] s') (fun x => Y.length - x.1) ?_ (0, 0, false) (subK_ok (by refine ⟨rfl, rfl, rfl, rfl, rfl, rfl, rfl, rfl, trivial⟩)) ⟨Nat.zero_le _, ⟨by decide, by simp [valD], fun _ => by simp [valD]⟩, hp⟩
    clear hp
    rintro ⟨i, c, ov⟩ s ⟨hi, ok, hp⟩
    simp only at hi ok hp
    refine Sm.seqW ?_
    conv => whnf
    refine Sm.seq ?_
    refine Sm.ofW ?_
    conv => whnf
    refine Br.mk (fun hc => ?_) (fun hc => ?_)
    · have hc : i < Y.length := by have h : (i : Int) < (Y.length : Int) := of_decide_eq_true hc; omega
      obtain ⟨d1, d2⟩ := isD_d (hall Y[i] (List.getElem_mem hc))
      have htake : Y.take (i + 1) = Y.take i ++ [Y[i]] := List.take_succ_eq_append_getElem hc
      have hval : valD (Y.take (i + 1)) = 10 * valD (Y.take i) + (Y[i].toNat - 48) := by rw [htake, valD_snoc]
      have c30 := ok.c30
      conv => whnf
      refine Sm.seq ?_
      refine Sm.block ?_
      refine Sm.seqW ?_
      conv => whnf
      have hix := idx_at (P := Tryz.prog) BD (b := pb) (off := 0) (c := Y.length) .i64 hc
      refine Om.of _ (hix) ?_
      conv => whnf
      refine hp.load (v := .int .u8 ((Y[i].toNat : Nat) : Int)) (by repeat (first | exact Has.here | apply Has.there | (apply Has.swap; repeat (first | exact HasR.here | apply HasR.there)))) (by rw [Nat.zero_add, Nat.mul_one]; simp [byteVals, hc]) rfl rfl rfl ?_
      conv => whnf
      refine Sm.live [2, 5, 7, 9, 10, 12, 43, 44, 45] ?_
      conv => whnf
      refine Sm.seqW ?_
      conv => whnf
      refine ⟨[0, 0, 3, 7, 15, 31, 31, 0, 191, 511], by decide +kernel, by decide +kernel, ?_⟩
      conv => whnf
      refine hp.loadA (l := C2 (c % w64) (c / w64)) (by repeat (first | exact Has.here | apply Has.there | (apply Has.swap; repeat (first | exact HasR.here | apply HasR.there)))) rfl (by rfl) rfl rfl ?_
      conv => whnf
      refine hp.rst.call (lOf_spec hp.rst.wf (a := 10) (by decide)) ?_
      rintro _ s1 rfl h1 k1
      conv => whnf
      refine hp.dkN h1 k1 ?_
      clear hp h1 k1
      intro s hp
      conv => whnf
      refine hp.rst.call (lMul_spec hp.rst.wf (a := c) (b := 10) (Nat.lt_trans c30 (by decide)) (by decide)) ?_
      rintro _ s1 rfl h1 k1
      conv => whnf
      refine hp.dkN h1 k1 ?_
      clear hp h1 k1
      intro s hp
      conv => whnf
      have hcm : c * 10 < w128 := Nat.lt_of_lt_of_le ((Nat.mul_lt_mul_right (by decide)).2 c30) (by decide)
      refine hp.rst.call (lShort_ok hp.rst.wf hcm) ?_
      rintro _ s1 rfl h1 k1
      conv => whnf
      refine hp.dkN h1 k1 ?_
      clear hp h1 k1
      intro s hp
      conv => whnf
      refine hp.rst.alloc (cs := C2 0 0) (e := 1) rfl rfl rfl rfl rfl ?_
      intro p13 s1 h1 k1
      conv => whnf
      refine hp.dkN h1 k1 ?_
      clear hp h1 k1
      intro s hp
      conv => whnf
      refine hp.rst.storeW (vs := C2 (c * 10 % w64) (c * 10 / w64)) rfl (by repeat (first | exact Rm.here | apply Rm.there)) (by first | exact C2_same _ _ _ _ | exact C4_same _ _ _ _ _ _ _ _ | exact Dc_same _ _ | rfl) rfl rfl rfl ?_
      intro s1 h1 l1
      conv => whnf
      refine hp.dkW h1 l1 ?_
      clear hp h1 l1
      intro s hp
      conv => whnf
      refine Sm.live [2, 5, 7, 9, 10, 12, 13, 14, 43, 44, 45] ?_
      conv => whnf
      refine Sm.seqW ?_
      conv => whnf
      refine ⟨[0, 0, 2, 6, 14, 31, 63, 127, 127, 255, 1023], by decide +kernel, by decide +kernel, ?_⟩
      conv => whnf
      refine hp.loadA (l := C2 (c * 10 % w64) (c * 10 / w64)) (by repeat (first | exact Has.here | apply Has.there | (apply Has.swap; repeat (first | exact HasR.here | apply HasR.there)))) rfl (by rfl) rfl rfl ?_
      conv => whnf
      have ed : IntKind.u64.wrap (IntKind.u8.wrap (((Y[i].toNat : Nat) : Int) - 48)) = ((Y[i].toNat - 48 : Nat) : Int) := by rw [wrap_u8i, wrap_u64i]; omega
      obtain ⟨d, hd⟩ : ∃ d, d = Y[i].toNat - 48 := ⟨_, rfl⟩
      have hd9 : d ≤ 9 := by omega
      rw [← hd] at hval ed
      rw [ed]
      refine hp.rst.call (lOf_spec hp.rst.wf (a := d) (by simp only [w64]; omega)) ?_
      rintro _ s1 rfl h1 k1
      conv => whnf
      refine hp.dkN h1 k1 ?_
      clear hp h1 k1
      intro s hp
      conv => whnf
      have hdw : d < w128 := by simp only [w128]; omega
      have hsum : c * 10 + d < w128 := by simp only [w128]; omega
      refine hp.rst.call (lAdd_ok hp.rst.wf hcm hdw hsum) ?_
      rintro _ s1 rfl h1 k1
      conv => whnf
      refine hp.dkN h1 k1 ?_
      clear hp h1 k1
      intro s hp
      conv => whnf
      refine hp.rst.storeW (vs := C2 ((c * 10 + d) % w64) ((c * 10 + d) / w64)) rfl (by repeat (first | exact Rm.here | apply Rm.there)) (by first | exact C2_same _ _ _ _ | exact C4_same _ _ _ _ _ _ _ _ | exact Dc_same _ _ | rfl) rfl rfl rfl ?_
      intro s1 h1 l1
      conv => whnf
      refine hp.dkW h1 l1 ?_
      clear hp h1 l1
      intro s hp
      conv => whnf
      refine Sm.live [2, 5, 7, 9, 10, 13, 14, 15, 43, 44, 45] ?_
      conv => whnf
      have ov2 : ov = true → 10 ^ 30 ≤ valD (Y.take (i + 1)) := fun h => by
        have := ok.ov
        rw [h] at this
        have := of_decide_eq_true this.symm
        rw [hval]; omega
      have nov : ov = false → valD (Y.take (i + 1)) = c * 10 + d := fun h => by rw [hval, ← ok.val h]; omega
      obtain ⟨ov', hov'⟩ : ∃ o, o = decide (10 ^ 30 ≤ valD (Y.take (i + 1))) := ⟨_, rfl⟩
      obtain ⟨c', hc'⟩ : ∃ c', c' = if ov' = true then c else c * 10 + d := ⟨_, rfl⟩
      have ok2 : RdOk Y (i + 1) c' ov' := by
        refine ⟨?_, hov', fun h => ?_⟩
        · rw [hc']
          split
          · exact c30
          · rename_i g
            have g' : ov' = false := by simpa using g
            have h1 : ¬ 10 ^ 30 ≤ valD (Y.take (i + 1)) := by rw [g'] at hov'; exact of_decide_eq_false hov'.symm
            cases hov : ov with
            | true => exact absurd (ov2 hov) h1
            | false => rw [← nov hov]; omega
        · rw [hc', h, if_neg (by decide)]
          have h1 : ¬ 10 ^ 30 ≤ valD (Y.take (i + 1)) := by rw [h] at hov'; exact of_decide_eq_false hov'.symm
          cases hov : ov with
          | true => exact absurd (ov2 hov) h1
          | false => exact (nov hov).symm
      have ei : IntKind.i64.wrap ((i : Int) + 1) = ((i + 1 : Nat) : Int) := by rw [wi64 (by omega) (by omega)]; push_cast; rfl
      refine Sm.seqC (fun e L' s' => e = .normal ∧ Hp (fun _ => False) z [] [blkA pb pb (byteVals Y) 1, blkA p13 p13 (C2 ((c * 10 + d) % w64) ((c * 10 + d) / w64)) 1, blkA p9 p9 (C2 (c % w64) (c / w64)) 1, blkA p2 p2 Dc.zero.cells 4] s' ∧ Sub [(2, .pointer (some ⟨p2, 0, none⟩)), (5, .bool ng), (7, sv R), (9, .pointer (some ⟨p9, 0, none⟩)), (10, .bool ov'), (13, .pointer (some ⟨p13, 0, none⟩)), (43, .slice (some ⟨pb, 0, none⟩) Y.length Y.length), (44, .int .i64 (Y.length : Int)), (45, .int .i64 (i : Int))] L') ?_ ?_
      · conv => whnf
        cases hov : ov with
        | true =>
          have : ov' = true := by rw [hov']; exact decide_eq_true (ov2 hov)
          rw [this]
          repeat (first | (refine Br.yes (by first | with_reducible rfl | with_reducible exact beq_self_eq_true _ | rfl) ?_; conv => whnf) | (refine Br.no (by first | with_reducible rfl | with_reducible exact bne_self_eq_false _ | rfl) ?_; conv => whnf))
          exact ⟨rfl, hp.pik (by repeat (first | exact Pik.nil | exact Pik.refl _ | exact Rm.here | apply Rm.there | apply Pik.cons | apply Pik.skip)), subK_ok ⟨rfl, rfl, rfl, rfl, rfl, rfl, rfl, rfl, rfl, trivial⟩⟩
        | false =>
          repeat (first | (refine Br.yes (by first | with_reducible rfl | with_reducible exact beq_self_eq_true _ | rfl) ?_; conv => whnf) | (refine Br.no (by first | with_reducible rfl | with_reducible exact bne_self_eq_false _ | rfl) ?_; conv => whnf))
          refine hp.loadA (l := C2 ((c * 10 + d) % w64) ((c * 10 + d) / w64)) (by repeat (first | exact Has.here | apply Has.there | (apply Has.swap; repeat (first | exact HasR.here | apply HasR.there)))) rfl (by rfl) rfl rfl ?_
          conv => whnf
          repeat (first | (refine Br.yes (by first | with_reducible rfl | with_reducible exact beq_self_eq_true _ | rfl) ?_; conv => whnf) | (refine Br.no (by first | with_reducible rfl | with_reducible exact bne_self_eq_false _ | rfl) ?_; conv => whnf))
          refine hp.call (small_spec hp.wf hsum) ?_
          clear hp
          rintro _ s rfl hp _
          conv => whnf
          repeat (first | (refine Br.yes (by first | with_reducible rfl | with_reducible exact beq_self_eq_true _ | rfl) ?_; conv => whnf) | (refine Br.no (by first | with_reducible rfl | with_reducible exact bne_self_eq_false _ | rfl) ?_; conv => whnf))
          have : ov' = !decide (c * 10 + d < 10 ^ 30) := by
            rw [hov', nov hov]
            by_cases g : c * 10 + d < 10 ^ 30
            · rw [decide_eq_true g, decide_eq_false (by omega)]; rfl
            · rw [decide_eq_false g, decide_eq_true (by omega)]; rfl
          rw [this]
          exact ⟨rfl, hp.pik (by repeat (first | exact Pik.nil | exact Pik.refl _ | exact Rm.here | apply Rm.there | apply Pik.cons | apply Pik.skip)), subK_ok ⟨rfl, rfl, rfl, rfl, rfl, rfl, rfl, rfl, rfl, trivial⟩⟩
      clear hp
      rintro e L' s ⟨rfl, hp, hs⟩
      refine Sm.weak _ hs ?_
      clear hs
      refine Sm.seqW ?_
      conv => whnf
      refine Sm.ofW ?_
      conv => whnf
      cases hv : ov' with
      | true =>
        rw [hv] at hc' ok2
        rw [if_pos rfl] at hc'
        subst hc'
        repeat (first | (refine Br.yes (by first | with_reducible rfl | with_reducible exact beq_self_eq_true _ | rfl) ?_; conv => whnf) | (refine Br.no (by first | with_reducible rfl | with_reducible exact bne_self_eq_false _ | rfl) ?_; conv => whnf))
        refine Sm.ofW ?_
        conv => whnf
        exact ⟨(i + 1, c', true), by (show Y.length - (i + 1) < Y.length - i); omega, subK_ok (by refine ⟨rfl, rfl, rfl, rfl, rfl, rfl, rfl, congrArg (fun x => some (Value.int .i64 x)) ei, trivial⟩), (by (show i + 1 ≤ Y.length); omega), ok2, hp.pik (by repeat (first | exact Pik.nil | exact Pik.refl _ | exact Rm.here | apply Rm.there | apply Pik.cons | apply Pik.skip))⟩
      | false =>
        rw [hv] at hc' ok2
        rw [if_neg (by decide)] at hc'
        repeat (first | (refine Br.yes (by first | with_reducible rfl | with_reducible exact beq_self_eq_true _ | rfl) ?_; conv => whnf) | (refine Br.no (by first | with_reducible rfl | with_reducible exact bne_self_eq_false _ | rfl) ?_; conv => whnf))
        refine hp.loadA (l := C2 ((c * 10 + d) % w64) ((c * 10 + d) / w64)) (by repeat (first | exact Has.here | apply Has.there | (apply Has.swap; repeat (first | exact HasR.here | apply HasR.there)))) rfl (by rfl) rfl rfl ?_
        conv => whnf
        refine hp.storeW (vs := C2 ((c * 10 + d) % w64) ((c * 10 + d) / w64)) rfl (by repeat (first | exact Rm.here | apply Rm.there)) (by first | exact C2_same _ _ _ _ | exact C4_same _ _ _ _ _ _ _ _ | exact Dc_same _ _ | rfl) rfl rfl rfl ?_
        clear hp
        intro s hp _
        conv => whnf
        rw [← hc'] at hp
        refine Sm.ofW ?_
        conv => whnf
        exact ⟨(i + 1, c', false), by (show Y.length - (i + 1) < Y.length - i); omega, subK_ok (by refine ⟨rfl, rfl, rfl, rfl, rfl, rfl, rfl, congrArg (fun x => some (Value.int .i64 x)) ei, trivial⟩), (by (show i + 1 ≤ Y.length); omega), ok2, hp.pik (by repeat (first | exact Pik.nil | exact Pik.refl _ | exact Rm.here | apply Rm.there | apply Pik.cons | apply Pik.skip))⟩
    · have hc : ¬ i < Y.length := by have h : ¬ (i : Int) < (Y.length : Int) := of_decide_eq_false hc; omega
      obtain rfl : i = Y.length := by omega
      have hov := ok.ov
      have hv := ok.val
      rw [List.take_length] at hov hv
      have c30 := ok.c30
      have cw : c < w128 := Nat.lt_trans c30 (by decide)
      conv => whnf
      refine Sm.seq ?_
      refine Sm.block ?_
      refine Sm.seqW ?_
      conv => whnf
      refine Sm.ofW ?_
      conv => whnf
      cases hovc : ov with
      | true =>
        rw [hovc] at hov
        rw [if_pos (of_decide_eq_true hov.symm)] at hread
        repeat (first | (refine Br.yes (by first | with_reducible rfl | with_reducible exact beq_self_eq_true _ | rfl) ?_; conv => whnf) | (refine Br.no (by first | with_reducible rfl | with_reducible exact bne_self_eq_false _ | rfl) ?_; conv => whnf))
        refine hp.storeW (vs := Dc.zero.cells) rfl (by repeat (first | exact Rm.here | apply Rm.there)) (by first | exact C2_same _ _ _ _ | exact C4_same _ _ _ _ _ _ _ _ | exact Dc_same _ _ | rfl) rfl rfl rfl ?_
        clear hp
        intro s hp _
        conv => whnf
        refine hp.loadA (l := Dc.zero.cells) (by repeat (first | exact Has.here | apply Has.there | (apply Has.swap; repeat (first | exact HasR.here | apply HasR.there)))) rfl (by rfl) rfl rfl ?_
        conv => whnf
        refine ⟨hp.fr, ?_⟩
        rw [hread]; rfl
      | false =>
        rw [hovc] at hov
        rw [if_neg (of_decide_eq_false hov.symm)] at hread
        have hv := hv hovc
        rw [← hv] at hread
        cases ng with
        | false =>
          repeat (first | (refine Br.yes (by first | with_reducible rfl | with_reducible exact beq_self_eq_true _ | rfl) ?_; conv => whnf) | (refine Br.no (by first | with_reducible rfl | with_reducible exact bne_self_eq_false _ | rfl) ?_; conv => whnf))
          refine Sm.seqW ?_
          conv => whnf
          refine hp.loadA (l := C2 (c % w64) (c / w64)) (by repeat (first | exact Has.here | apply Has.there | (apply Has.swap; repeat (first | exact HasR.here | apply HasR.there)))) rfl (by rfl) rfl rfl ?_
          conv => whnf
          refine hp.storeW (vs := (Dc.mk false c (R.length : Int)).cells) rfl (by repeat (first | exact Rm.here | apply Rm.there)) (by first | exact C2_same _ _ _ _ | exact C4_same _ _ _ _ _ _ _ _ | exact Dc_same _ _ | rfl) rfl rfl rfl ?_
          clear hp
          intro s hp _
          conv => whnf
          refine Sm.ofW ?_
          conv => whnf
          refine hp.loadA (l := (Dc.mk false c (R.length : Int)).cells) (by repeat (first | exact Has.here | apply Has.there | (apply Has.swap; repeat (first | exact HasR.here | apply HasR.there)))) rfl (by rfl) rfl rfl ?_
          conv => whnf
          refine ⟨hp.fr, ?_⟩
          rw [hread]; rfl
        | true =>
          repeat (first | (refine Br.yes (by first | with_reducible rfl | with_reducible exact beq_self_eq_true _ | rfl) ?_; conv => whnf) | (refine Br.no (by first | with_reducible rfl | with_reducible exact bne_self_eq_false _ | rfl) ?_; conv => whnf))
          refine hp.loadA (l := C2 (c % w64) (c / w64)) (by repeat (first | exact Has.here | apply Has.there | (apply Has.swap; repeat (first | exact HasR.here | apply HasR.there)))) rfl (by rfl) rfl rfl ?_
          conv => whnf
          repeat (first | (refine Br.yes (by first | with_reducible rfl | with_reducible exact beq_self_eq_true _ | rfl) ?_; conv => whnf) | (refine Br.no (by first | with_reducible rfl | with_reducible exact bne_self_eq_false _ | rfl) ?_; conv => whnf))
          refine hp.call (nought_spec hp.wf c) ?_
          clear hp
          rintro _ s rfl hp _
          conv => whnf
          by_cases h0 : c = 0
          · rw [decide_eq_true h0]
            repeat (first | (refine Br.yes (by first | with_reducible rfl | with_reducible exact beq_self_eq_true _ | rfl) ?_; conv => whnf) | (refine Br.no (by first | with_reducible rfl | with_reducible exact bne_self_eq_false _ | rfl) ?_; conv => whnf))
            refine hp.storeW (vs := Dc.zero.cells) rfl (by repeat (first | exact Rm.here | apply Rm.there)) (by first | exact C2_same _ _ _ _ | exact C4_same _ _ _ _ _ _ _ _ | exact Dc_same _ _ | rfl) rfl rfl rfl ?_
            clear hp
            intro s hp _
            conv => whnf
            refine hp.loadA (l := Dc.zero.cells) (by repeat (first | exact Has.here | apply Has.there | (apply Has.swap; repeat (first | exact HasR.here | apply HasR.there)))) rfl (by rfl) rfl rfl ?_
            conv => whnf
            refine ⟨hp.fr, ?_⟩
            rw [hread, decide_eq_true h0]; rfl
          · rw [decide_eq_false h0]
            repeat (first | (refine Br.yes (by first | with_reducible rfl | with_reducible exact beq_self_eq_true _ | rfl) ?_; conv => whnf) | (refine Br.no (by first | with_reducible rfl | with_reducible exact bne_self_eq_false _ | rfl) ?_; conv => whnf))
            refine Sm.seqW ?_
            conv => whnf
            refine hp.loadA (l := C2 (c % w64) (c / w64)) (by repeat (first | exact Has.here | apply Has.there | (apply Has.swap; repeat (first | exact HasR.here | apply HasR.there)))) rfl (by rfl) rfl rfl ?_
            conv => whnf
            refine hp.storeW (vs := (Dc.mk true c (R.length : Int)).cells) rfl (by repeat (first | exact Rm.here | apply Rm.there)) (by first | exact C2_same _ _ _ _ | exact C4_same _ _ _ _ _ _ _ _ | exact Dc_same _ _ | rfl) rfl rfl rfl ?_
            clear hp
            intro s hp _
            conv => whnf
            refine Sm.ofW ?_
            conv => whnf
            refine hp.loadA (l := (Dc.mk true c (R.length : Int)).cells) (by repeat (first | exact Has.here | apply Has.there | (apply Has.swap; repeat (first | exact HasR.here | apply HasR.there)))) rfl (by rfl) rfl rfl ?_
            conv => whnf
            refine ⟨hp.fr, ?_⟩
            rw [hread, decide_eq_false h0]; rfl
end Go.Ev
end

/- limb.Bits; pieces of an array. No condition. -/
noncomputable section
namespace Go.Ev
open Go.Proofs
variable [Lk]
set_option linter.unusedSectionVars false
set_option linter.unusedVariables false
set_option maxRecDepth 100000

end Go.Ev
end

/- dec.Print walked. No condition. -/
noncomputable section
namespace Go.Ev
open Go.Proofs
variable [Lk]
set_option linter.unusedSectionVars false
set_option linter.unusedVariables false
set_option maxRecDepth 100000

end Go.Ev
end

/- Chapter 2's example; the order of decimals at one scale. No condition. -/
noncomputable section
namespace Go.Ev
open Go.Proofs
variable [Lk]
set_option linter.unusedSectionVars false
set_option linter.unusedVariables false
set_option maxRecDepth 100000

end Go.Ev
end

/- What is printed of a decimal with more places. No condition. -/
noncomputable section
namespace Go.Ev
open Go.Proofs
variable [Lk]
set_option linter.unusedSectionVars false
set_option linter.unusedVariables false
set_option maxRecDepth 100000

end Go.Ev
end

/- What is printed is read the same. No condition. -/
noncomputable section
namespace Go.Ev
open Go.Proofs
variable [Lk]
set_option linter.unusedSectionVars false
set_option linter.unusedVariables false
set_option maxRecDepth 100000

end Go.Ev
end

/- The document's digits, Neg, Cmp, Add, Sub, Mul, Scaled of decimals. No condition. -/
noncomputable section
namespace Go.Ev
open Go.Proofs
variable [Lk]
set_option linter.unusedSectionVars false
set_option linter.unusedVariables false
set_option maxRecDepth 100000

end Go.Ev
end

/- The document's Print. No condition. -/
noncomputable section
namespace Go.Ev
open Go.Proofs
variable [Lk]
set_option linter.unusedSectionVars false
set_option linter.unusedVariables false
set_option maxRecDepth 100000

end Go.Ev
end

/- pyxlaw2.text. No condition. -/
noncomputable section
namespace Go.Ev
open Go.Proofs
variable [Lk]
set_option linter.unusedSectionVars false
set_option linter.unusedVariables false
set_option maxRecDepth 100000

end Go.Ev
end

/- The document's Read, without a program. No condition. -/
noncomputable section
namespace Go.Ev
open Go.Proofs
variable [Lk]
set_option linter.unusedSectionVars false
set_option linter.unusedVariables false
set_option maxRecDepth 100000

end Go.Ev
end

/- The document's Read walked. No condition. -/
noncomputable section
namespace Go.Ev
open Go.Proofs
variable [Lk]
set_option linter.unusedSectionVars false
set_option linter.unusedVariables false
set_option maxRecDepth 100000

end Go.Ev
end

/- Labels: bits, Below, Join, Meet, Right, Of. No condition. -/
noncomputable section
namespace Go.Ev
open Go.Proofs
variable [Lk]
set_option linter.unusedSectionVars false
set_option linter.unusedVariables false
set_option maxRecDepth 100000

/-- A label: its members as bits, its level. -/
structure Lb where
  set : Nat
  lev : Int
abbrev Lb.val (a : Lb) : Value := .agg #[.int .u64 (a.set : Int), .int .i64 a.lev]
abbrev Lb.cells (a : Lb) : List Value := [.int .u64 (a.set : Int), .int .i64 a.lev]
def Lb.ok (a : Lb) : Prop := a.set < 18446744073709551616 ∧ inR a.lev
def andn (a b : Nat) : Nat := a &&& (18446744073709551615 - b)
theorem andn_u64 {a b : Nat} (ha : a < 18446744073709551616) (hb : b < 18446744073709551616) :
    IntKind.u64.wrap ((BitVec.ofInt IntKind.u64.bits (a : Int) &&& ~~~ BitVec.ofInt IntKind.u64.bits (b : Int)).toNat : Int) = ((andn a b : Nat) : Int) := by
  have e : IntKind.u64.bits = 64 := rfl
  rw [e, bv_nat, bv_nat, BitVec.toNat_and, BitVec.toNat_not, BitVec.toNat_ofNat, BitVec.toNat_ofNat, wrap_u64, Nat.mod_eq_of_lt (show a < 2 ^ 64 from ha), Nat.mod_eq_of_lt (show b < 2 ^ 64 from hb)]
  have : a &&& (2 ^ 64 - 1 - b) < 2 ^ 64 := Nat.and_lt_two_pow a (by omega)
  rw [Nat.mod_eq_of_lt this]
  rfl
theorem nb0 (n : Nat) : (((n : Nat) : Int) == 0) = decide (n = 0) := by
  rw [Bool.eq_iff_iff, beq_iff_eq, decide_eq_true_iff]; omega
def belowF (a b : Lb) : Bool := decide (andn a.set b.set = 0) && decide (a.lev ≤ b.lev)
theorem below_spec {z : St} (wf : WF z) {a b : Lb} (ha : a.ok) (hb : b.ok) : Cw Tryz.prog 33 [a.val, b.val] z fun r s' => K0 z s' ∧ r = .bool (belowF a b) := by
  have hp : Hp (fun _ => False) z [] [] z := Hp.start _ wf _ (by simp)
  refine Cw.enterS Tryz.func33 rfl rfl ?_
  refine Sm.seqW ?_
  conv => whnf
  refine hp.var (cs := a.cells) (e := 2) rfl rfl ?_
  clear hp
  intro p2 s hp _
  conv => whnf
  refine hp.var (cs := b.cells) (e := 2) rfl rfl ?_
  clear hp
  intro p3 s hp _
  conv => whnf
  refine Sm.live [2, 3] ?_
  conv => whnf
  refine Sm.seqW ?_
  conv => whnf
  (refine hp.load (by repeat (first | exact Has.here | apply Has.there | (apply Has.swap; repeat (first | exact HasR.here | apply HasR.there)))) (by rfl) rfl rfl rfl ?_; conv => whnf)
  (refine hp.load (by repeat (first | exact Has.here | apply Has.there | (apply Has.swap; repeat (first | exact HasR.here | apply HasR.there)))) (by rfl) rfl rfl rfl ?_; conv => whnf)
  rw [andn_u64 ha.1 hb.1]
  unfold belowF
  by_cases q : andn a.set b.set = 0
  · have hq := (nb0 (andn a.set b.set)).trans (decide_eq_true q)
    repeat (first | (refine Br.yes hq ?_; conv => whnf) | (refine hp.load (by repeat (first | exact Has.here | apply Has.there | (apply Has.swap; repeat (first | exact HasR.here | apply HasR.there)))) (by rfl) rfl rfl rfl ?_; conv => whnf))
    refine Sm.ofW ?_
    conv => whnf
    rw [decide_eq_true q]
    exact ⟨hp.fr, rfl⟩
  · have hq := (nb0 (andn a.set b.set)).trans (decide_eq_false q)
    repeat (first | (refine Br.no hq ?_; conv => whnf) | (refine hp.load (by repeat (first | exact Has.here | apply Has.there | (apply Has.swap; repeat (first | exact HasR.here | apply HasR.there)))) (by rfl) rfl rfl rfl ?_; conv => whnf))
    refine Sm.ofW ?_
    conv => whnf
    rw [decide_eq_false q]
    exact ⟨hp.fr, rfl⟩
def joinF (a b : Lb) : Lb := ⟨a.set ||| b.set, if b.lev > a.lev then b.lev else a.lev⟩
theorem join_spec {z : St} (wf : WF z) {a b : Lb} (ha : a.ok) (hb : b.ok) : Cw Tryz.prog 84 [a.val, b.val] z fun r s' => K0 z s' ∧ r = (joinF a b).val := by
  have hp : Hp (fun _ => False) z [] [] z := Hp.start _ wf _ (by simp)
  refine Cw.enterS Tryz.func84 rfl rfl ?_
  refine Sm.seqW ?_
  conv => whnf
  refine hp.var (cs := a.cells) (e := 2) rfl rfl ?_
  clear hp
  intro p2 s hp _
  conv => whnf
  refine hp.var (cs := b.cells) (e := 2) rfl rfl ?_
  clear hp
  intro p3 s hp _
  conv => whnf
  refine hp.alloc (cs := (Lb.mk 0 0).cells) (e := 2) rfl rfl rfl rfl rfl ?_
  clear hp
  intro p4 s hp _
  conv => whnf
  refine Sm.live [2, 3, 4] ?_
  conv => whnf
  refine Sm.seqW ?_
  conv => whnf
  (refine hp.load (by repeat (first | exact Has.here | apply Has.there | (apply Has.swap; repeat (first | exact HasR.here | apply HasR.there)))) (by rfl) rfl rfl rfl ?_; conv => whnf)
  (refine hp.load (by repeat (first | exact Has.here | apply Has.there | (apply Has.swap; repeat (first | exact HasR.here | apply HasR.there)))) (by rfl) rfl rfl rfl ?_; conv => whnf)
  rw [or_u64 ha.1 hb.1]
  (refine hp.load (by repeat (first | exact Has.here | apply Has.there | (apply Has.swap; repeat (first | exact HasR.here | apply HasR.there)))) (by rfl) rfl rfl rfl ?_; conv => whnf)
  (refine hp.load (by repeat (first | exact Has.here | apply Has.there | (apply Has.swap; repeat (first | exact HasR.here | apply HasR.there)))) (by rfl) rfl rfl rfl ?_; conv => whnf)
  refine hp.storeW (vs := (joinF a b).cells) rfl (by repeat (first | exact Rm.here | apply Rm.there)) (by first | exact C2_same _ _ _ _ | exact C4_same _ _ _ _ _ _ _ _ | exact Dc_same _ _ | rfl) rfl rfl rfl ?_
  clear hp
  intro s hp _
  conv => whnf
  refine Sm.live [4] ?_
  conv => whnf
  refine Sm.ofW ?_
  conv => whnf
  refine hp.loadA (l := (joinF a b).cells) (by repeat (first | exact Has.here | apply Has.there | (apply Has.swap; repeat (first | exact HasR.here | apply HasR.there)))) rfl (by rfl) rfl rfl ?_
  conv => whnf
  exact ⟨hp.fr, rfl⟩
theorem IL : SlT Tryz.prog 22 3 1 8 (.int .i64 0) := ⟨Tryz.underlying22, ⟨_, rfl, rfl, rfl, rfl⟩, rfl, rfl, by decide, by decide⟩
end Go.Ev
end

/- Labels, as the document has them. No condition. -/
noncomputable section
namespace Go.Ev
open Go.Proofs
variable [Lk]
set_option linter.unusedSectionVars false
set_option linter.unusedVariables false
set_option maxRecDepth 100000

end Go.Ev
end

/- Labels: equality (again, without what is printed). No condition. -/
noncomputable section
namespace Go.Ev
open Go.Proofs
variable [Lk]
set_option linter.unusedSectionVars false
set_option linter.unusedVariables false
set_option maxRecDepth 100000

end Go.Ev
end

/- Labels: an order and its joins, without a program. No condition. -/
noncomputable section
namespace Go.Ev
open Go.Proofs
variable [Lk]
set_option linter.unusedSectionVars false
set_option linter.unusedVariables false
set_option maxRecDepth 100000

/-- A small label: as the laws make them. -/
structure Lb.sm (a : Lb) : Prop where
  set : a.set < 256
  lo : 0 ≤ a.lev
  hi : a.lev ≤ 3
theorem Lb.sm.ok {a : Lb} (h : a.sm) : a.ok := ⟨by have := h.set; omega, by have := h.lo; have := h.hi; unfold inR; omega⟩
theorem joinF_sm {a b : Lb} (ha : a.sm) (hb : b.sm) : (joinF a b).sm := by
  refine ⟨Nat.or_lt_two_pow (n := 8) ha.set hb.set, ?_, ?_⟩
  · show 0 ≤ if b.lev > a.lev then b.lev else a.lev
    have := ha.lo; have := hb.lo; split <;> omega
  · show (if b.lev > a.lev then b.lev else a.lev) ≤ 3
    have := ha.hi; have := hb.hi; split <;> omega
end Go.Ev
end

/- Views without a program: rows, what is seen of them, sums. No condition. -/
noncomputable section
namespace Go.Ev
open Go.Proofs
variable [Lk]
set_option linter.unusedSectionVars false
set_option linter.unusedVariables false
set_option maxRecDepth 100000

/-- A row. -/
structure Rv where
  e : Int
  ac : Int
  p : Int
  w : Int
  am : Dc
  l : Lb
def Rv.cells (r : Rv) : List Value := [.int .i64 r.e, .int .i64 r.ac, .int .i64 r.p, .int .i64 r.w, .bool r.am.neg, .int .u64 ((r.am.c % w64 : Nat) : Int), .int .u64 ((r.am.c / w64 : Nat) : Int), .int .i64 r.am.scale, .int .u64 (r.l.set : Int), .int .i64 r.l.lev]
def Rv.val (r : Rv) : Value := .agg #[.int .i64 r.e, .int .i64 r.ac, .int .i64 r.p, .int .i64 r.w, .bool r.am.neg, .int .u64 ((r.am.c % w64 : Nat) : Int), .int .u64 ((r.am.c / w64 : Nat) : Int), .int .i64 r.am.scale, .int .u64 (r.l.set : Int), .int .i64 r.l.lev]
def rvCells (l : List Rv) : List Value := l.flatMap Rv.cells
/-- What is answered. -/
structure Ov where
  key : Int
  v : Dc
  l : Lb
def Ov.cells (r : Ov) : List Value := [.int .i64 r.key, .bool r.v.neg, .int .u64 ((r.v.c % w64 : Nat) : Int), .int .u64 ((r.v.c / w64 : Nat) : Int), .int .i64 r.v.scale, .int .u64 (r.l.set : Int), .int .i64 r.l.lev]
def Ov.val (r : Ov) : Value := .agg #[.int .i64 r.key, .bool r.v.neg, .int .u64 ((r.v.c % w64 : Nat) : Int), .int .u64 ((r.v.c / w64 : Nat) : Int), .int .i64 r.v.scale, .int .u64 (r.l.set : Int), .int .i64 r.l.lev]
def ovCells (l : List Ov) : List Value := l.flatMap Ov.cells
def Ov.zero : Ov := ⟨0, ⟨false, 0, 0⟩, ⟨0, 0⟩⟩
/-- Cells of rows, one behind the other: what holds of any such. -/
theorem flat_cells_length {α : Type} (f : α → List Value) (m : Nat) (hm : ∀ x, (f x).length = m) (l : List α) : (l.flatMap f).length = l.length * m := by
  induction l with
  | nil => simp
  | cons x l ih => rw [List.flatMap_cons, List.length_append, hm, ih, List.length_cons, Nat.add_mul]; omega
theorem flat_cells_drop {α : Type} (f : α → List Value) (m : Nat) (hm : ∀ x, (f x).length = m) (l : List α) (i : Nat) : (l.flatMap f).drop (i * m) = (l.drop i).flatMap f := by
  induction i generalizing l with
  | zero => simp
  | succ i ih =>
    cases l with
    | nil => simp
    | cons x l =>
      rw [List.flatMap_cons, show (i + 1) * m = m + i * m by rw [Nat.add_mul]; omega, ← List.drop_drop, List.drop_left' (hm x), ih]
      rfl
theorem flat_cells_at {α : Type} (f : α → List Value) (m : Nat) (hm : ∀ x, (f x).length = m) {l : List α} {i : Nat} (h : i < l.length) : ((l.flatMap f).drop (i * m)).take m = f l[i] := by
  rw [flat_cells_drop f m hm, List.drop_eq_getElem_cons h, List.flatMap_cons, List.take_left' (hm _)]
theorem flat_cells_one {α : Type} (f : α → List Value) (hf : ∀ x, (f x).all (·.oneCell') = true) (l : List α) : (l.flatMap f).all (·.oneCell') = true := by
  rw [List.all_eq_true]
  intro x hx
  obtain ⟨r, _, hr⟩ := List.mem_flatMap.1 hx
  exact List.all_eq_true.1 (hf r) x hr
theorem rvCells_append (a b : List Rv) : rvCells (a ++ b) = rvCells a ++ rvCells b := by simp [rvCells]
theorem rv_at {l : List Rv} {i : Nat} (h : i < l.length) : ((rvCells l).drop (i * 10)).take 10 = l[i].cells := flat_cells_at _ 10 (fun _ => rfl) h
theorem ovCells_length (l : List Ov) : (ovCells l).length = l.length * 7 := flat_cells_length _ 7 (fun _ => rfl) l
theorem ovCells_one (l : List Ov) : (ovCells l).all (·.oneCell') = true := flat_cells_one _ (fun _ => rfl) l
theorem ovCells_append (a b : List Ov) : ovCells (a ++ b) = ovCells a ++ ovCells b := by simp [ovCells]
theorem ov_at {l : List Ov} {i : Nat} (h : i < l.length) : ((ovCells l).drop (i * 7)).take 7 = l[i].cells := flat_cells_at _ 7 (fun _ => rfl) h
/-- The label of an entity in a table. -/
def labE (e : Int) : Lb := ⟨2 ^ e.toNat, e⟩
/-- A row of two raw numbers. -/
def rowF (x y : Int) : Rv := ⟨x % 4, x.tdiv 4 % 16, x.tdiv 64 % 3, x.tdiv 192 % 4 - 1, ofD (y % 20001 - 10000) (y.tdiv 7 % 3), labE (x % 4)⟩
/-- The first rows of a table. -/
def tabN (l : List Int) (k : Nat) : List Rv := (List.range k).map fun j => rowF (l.getD (2 * j) 0) (l.getD (2 * j + 1) 0)
def tabF (l : List Int) : List Rv := tabN l (min 20 (l.length / 2))
theorem tabN_succ (l : List Int) (k : Nat) : tabN l (k + 1) = tabN l k ++ [rowF (l.getD (2 * k) 0) (l.getD (2 * k + 1) 0)] := by
  unfold tabN
  rw [List.range_succ, List.map_append]; rfl
/-- A row of a table: not large, its label of its entity. -/
structure Rv.ok (r : Rv) : Prop where
  am : ∃ x S : Int, r.am = mkD x S ∧ -10000 ≤ x ∧ x ≤ 10000 ∧ 0 ≤ S ∧ S ≤ 2
  l : r.l.sm
  e : 0 ≤ r.e ∧ r.e ≤ 3
/-- What may be seen. -/
def seesF (rows : List Rv) (c : Lb) : List Rv := rows.filter fun r => belowF r.l c
/-- Sums: of whole numbers at scales. -/
def addP (a b : Int × Int) : Int × Int := (a.1 * 10 ^ (max a.2 b.2 - a.2).toNat + b.1 * 10 ^ (max a.2 b.2 - b.2).toNat, max a.2 b.2)
theorem addF_P {a b : Int × Int} (ha : a.1.natAbs ≤ 1000000000) (hb : b.1.natAbs ≤ 1000000000) (a1 : 0 ≤ a.2) (a2 : a.2 ≤ 2) (b1 : 0 ≤ b.2) (b2 : b.2 ≤ 2) : addF (mkD a.1 a.2) (mkD b.1 b.2) = okD (mkD (addP a b).1 (addP a b).2) := by
  rw [addF_mkD (by omega) (by omega) a1 (by omega) b1 (by omega)]
  refine mkI_ok ?_
  have h1 : (max a.2 b.2 - a.2).toNat ≤ 2 := by omega
  have h2 : (max a.2 b.2 - b.2).toNat ≤ 2 := by omega
  generalize (max a.2 b.2 - a.2).toNat = i at h1
  generalize (max a.2 b.2 - b.2).toNat = j at h2
  have e30 : 10 ^ 30 = 1000000000000000000000000000000 := by decide
  rw [e30]
  have c1 : (10 : Int) ^ i = 1 ∨ (10 : Int) ^ i = 10 ∨ (10 : Int) ^ i = 100 := by
    have : i = 0 ∨ i = 1 ∨ i = 2 := by omega
    rcases this with rfl | rfl | rfl <;> decide
  have c2 : (10 : Int) ^ j = 1 ∨ (10 : Int) ^ j = 10 ∨ (10 : Int) ^ j = 100 := by
    have : j = 0 ∨ j = 1 ∨ j = 2 := by omega
    rcases this with rfl | rfl | rfl <;> decide
  rcases c1 with c1 | c1 | c1 <;> rcases c2 with c2 | c2 | c2 <;> rw [c1, c2] <;> omega
/-- The parts of a row's amount. -/
def Rv.pr (r : Rv) : Int × Int := (if r.am.neg = true then -(r.am.c : Int) else r.am.c, r.am.scale)
theorem pr_ok {r : Rv} (h : r.ok) : r.am = mkD r.pr.1 r.pr.2 ∧ r.pr.1.natAbs ≤ 10000 ∧ 0 ≤ r.pr.2 ∧ r.pr.2 ≤ 2 := by
  obtain ⟨x, S, h1, h2, h3, h4, h5⟩ := h.am
  have : r.pr = (x, S) := by
    unfold Rv.pr
    rw [h1]
    unfold mkD
    simp only [decide_eq_true_eq]
    congr 1
    split <;> omega
  rw [this, h1]
  exact ⟨rfl, by simp only; omega, h4, h5⟩
def sumP (l : List Rv) : Int × Int := l.foldl (fun a r => addP a r.pr) (0, 0)
def joinL (l : List Rv) : Lb := l.foldl (fun a r => joinF a r.l) ⟨0, 0⟩
theorem sumP_snoc (l : List Rv) (r : Rv) : sumP (l ++ [r]) = addP (sumP l) r.pr := by unfold sumP; rw [List.foldl_append]; rfl
theorem joinL_snoc (l : List Rv) (r : Rv) : joinL (l ++ [r]) = joinF (joinL l) r.l := by unfold joinL; rw [List.foldl_append]; rfl
theorem snoc_ind {α : Type} {P : List α → Prop} (h0 : P []) (h1 : ∀ l x, P l → P (l ++ [x])) (l : List α) : P l := by
  have : ∀ n (l : List α), l.length = n → P l := by
    intro n
    induction n with
    | zero => intro l hl; rw [List.length_eq_zero_iff.1 hl]; exact h0
    | succ n ih =>
      intro l hl
      have hne : l ≠ [] := by intro e; rw [e] at hl; simp at hl
      rw [← List.dropLast_concat_getLast hne]
      exact h1 _ _ (ih _ (by simp; omega))
  exact this _ l rfl
theorem addP_bd {a b : Int × Int} {A B : Nat} (ha : a.1.natAbs * 10 ^ (2 - a.2).toNat ≤ A) (hb : b.1.natAbs * 10 ^ (2 - b.2).toNat ≤ B) (a1 : 0 ≤ a.2) (a2 : a.2 ≤ 2) (b1 : 0 ≤ b.2) (b2 : b.2 ≤ 2) :
    (addP a b).1.natAbs * 10 ^ (2 - (addP a b).2).toNat ≤ A + B ∧ 0 ≤ (addP a b).2 ∧ (addP a b).2 ≤ 2 := by
  obtain ⟨x, S⟩ := a
  obtain ⟨y, T⟩ := b
  simp only at ha hb a1 a2 b1 b2
  have hS : S = 0 ∨ S = 1 ∨ S = 2 := by omega
  have hT : T = 0 ∨ T = 1 ∨ T = 2 := by omega
  have m00 : max (0 : Int) 0 = 0 := rfl
  have m01 : max (0 : Int) 1 = 1 := rfl
  have m02 : max (0 : Int) 2 = 2 := rfl
  have m10 : max (1 : Int) 0 = 1 := rfl
  have m11 : max (1 : Int) 1 = 1 := rfl
  have m12 : max (1 : Int) 2 = 2 := rfl
  have m20 : max (2 : Int) 0 = 2 := rfl
  have m21 : max (2 : Int) 1 = 2 := rfl
  have m22 : max (2 : Int) 2 = 2 := rfl
  have t0 : ((0 : Int) - 0).toNat = 0 := rfl
  have t1 : ((1 : Int) - 0).toNat = 1 := rfl
  have t2 : ((2 : Int) - 0).toNat = 2 := rfl
  have t3 : ((1 : Int) - 1).toNat = 0 := rfl
  have t4 : ((2 : Int) - 1).toNat = 1 := rfl
  have t5 : ((2 : Int) - 2).toNat = 0 := rfl
  have p0 : (10 : Int) ^ 0 = 1 := rfl
  have p1 : (10 : Int) ^ 1 = 10 := rfl
  have p2 : (10 : Int) ^ 2 = 100 := rfl
  have n0 : 10 ^ 0 = 1 := rfl
  have n1 : 10 ^ 1 = 10 := rfl
  have n2 : 10 ^ 2 = 100 := rfl
  unfold addP
  rcases hS with rfl | rfl | rfl <;> rcases hT with rfl | rfl | rfl <;> simp only [m00, m01, m02, m10, m11, m12, m20, m21, m22, t0, t1, t2, t3, t4, t5, p0, p1, p2, n0, n1, n2] at ha hb ⊢ <;> omega
theorem sumP_ok {l : List Rv} (h : ∀ r ∈ l, r.ok) : (sumP l).1.natAbs * 10 ^ (2 - (sumP l).2).toNat ≤ l.length * 1000000 ∧ 0 ≤ (sumP l).2 ∧ (sumP l).2 ≤ 2 := by
  revert h
  refine snoc_ind (P := fun l => (∀ r ∈ l, r.ok) → (sumP l).1.natAbs * 10 ^ (2 - (sumP l).2).toNat ≤ l.length * 1000000 ∧ 0 ≤ (sumP l).2 ∧ (sumP l).2 ≤ 2) ?_ ?_ l
  · intro _
    exact ⟨by show (0 : Int).natAbs * _ ≤ _; simp, by decide, by decide⟩
  · intro l r ih h
    obtain ⟨i1, i2, i3⟩ := ih (fun x hx => h x (by simp [hx]))
    obtain ⟨-, p1, p2, p3⟩ := pr_ok (h r (by simp))
    rw [sumP_snoc]
    have hb : r.pr.1.natAbs * 10 ^ (2 - r.pr.2).toNat ≤ 1000000 := by
      have : r.pr.2 = 0 ∨ r.pr.2 = 1 ∨ r.pr.2 = 2 := by omega
      rcases this with e | e | e <;> rw [e] <;> simp <;> omega
    have := addP_bd i1 hb i2 i3 p2 p3
    refine ⟨?_, this.2⟩
    simp only [List.length_append, List.length_singleton, Nat.add_mul, Nat.one_mul]
    exact this.1
theorem sumP_lim {l : List Rv} (h : ∀ r ∈ l, r.ok) (hl : l.length ≤ 100) : (sumP l).1.natAbs ≤ 1000000000 ∧ 0 ≤ (sumP l).2 ∧ (sumP l).2 ≤ 2 := by
  obtain ⟨h1, h2, h3⟩ := sumP_ok h
  refine ⟨?_, h2, h3⟩
  have : 1 ≤ 10 ^ (2 - (sumP l).2).toNat := Nat.pow_pos (by decide)
  have h4 : (sumP l).1.natAbs * 1 ≤ (sumP l).1.natAbs * 10 ^ (2 - (sumP l).2).toNat := Nat.mul_le_mul_left _ this
  omega
theorem joinL_sm {l : List Rv} (h : ∀ r ∈ l, r.l.sm) : (joinL l).sm := by
  revert h
  refine snoc_ind (P := fun l => (∀ r ∈ l, r.l.sm) → (joinL l).sm) ?_ ?_ l
  · intro _; exact ⟨by decide, by decide, by decide⟩
  · intro l r ih h
    rw [joinL_snoc]
    exact joinF_sm (ih fun x hx => h x (by simp [hx])) (h r (by simp))
end Go.Ev
end

/- Views: a table of raw numbers. No condition. -/
noncomputable section
namespace Go.Ev
open Go.Proofs
variable [Lk]
set_option linter.unusedSectionVars false
set_option linter.unusedVariables false
set_option maxRecDepth 100000

theorem RV : SlT Tryz.prog 58 74 10 80 (.agg #[.int .i64 0, .int .i64 0, .int .i64 0, .int .i64 0, .bool false, .int .u64 0, .int .u64 0, .int .i64 0, .int .u64 0, .int .i64 0]) := ⟨Tryz.underlying58, ⟨_, rfl, rfl, rfl, rfl⟩, rfl, rfl, by decide, by decide⟩
theorem RD : SlT Tryz.prog 59 119 10 80 (.agg #[.int .i64 0, .int .i64 0, .int .i64 0, .int .i64 0, .bool false, .int .u64 0, .int .u64 0, .int .i64 0, .int .u64 0, .int .i64 0]) := ⟨Tryz.underlying59, ⟨_, rfl, rfl, rfl, rfl⟩, rfl, rfl, by decide, by decide⟩
theorem RO7 : SlT Tryz.prog 63 68 7 56 (.agg #[.int .i64 0, .bool false, .int .u64 0, .int .u64 0, .int .i64 0, .int .u64 0, .int .i64 0]) := ⟨Tryz.underlying63, ⟨_, rfl, rfl, rfl, rfl⟩, rfl, rfl, by decide, by decide⟩
theorem RLb : SlT Tryz.prog 60 57 2 16 (.agg #[.int .u64 0, .int .i64 0]) := ⟨Tryz.underlying60, ⟨_, rfl, rfl, rfl, rfl⟩, rfl, rfl, by decide, by decide⟩
/-- The labels of a table. -/
def labC : List Value := [.int .u64 1, .int .i64 0, .int .u64 2, .int .i64 1, .int .u64 4, .int .i64 2, .int .u64 8, .int .i64 3]
theorem labC_at {e : Nat} (h : e < 4) : sl labC (0 + e * 2) 2 = some (labE (e : Int)).cells := by
  have : e = 0 ∨ e = 1 ∨ e = 2 ∨ e = 3 := by omega
  rcases this with rfl | rfl | rfl | rfl <;> rfl
section
variable {X : Nat → Prop} {s0 s : St} {R F G : List At}
theorem table_spec (hp : Hp X s0 R F s) {v : Value} {l : List Int} (hv : HasR (slA none v 1 l.length (l.map (Value.int .i64))) R) (hl : l.length ≤ 140737488351232) (hin : ∀ n ∈ l, inR n) {K : Value → St → Prop}
    (hK : ∀ κa va κb vb b s', Hp X s0 R (onA κa va 10 (tabF l).length (rvCells (tabF l)) :: onA κb vb 10 (tabF l).length (rvCells (tabF l)) :: blkA b b labC 2 :: F) s' → K (.tuple #[va, vb, .slice (some ⟨b, 0, none⟩) 4 4]) s') :
    Cw Tryz.prog 24 [v] s K := by
  obtain ⟨a, c, rfl⟩ := (hp.slR hv).shape
  refine Cw.enterS Tryz.func24 rfl rfl ?_
  refine Sm.seqW ?_
  conv => whnf
  refine Sm.seqW ?_
  conv => whnf
  refine Sm.seqW ?_
  conv => whnf
  refine Sm.seqW ?_
  conv => whnf
  refine hp.lit (cs := labC) (e := 2) rfl ?_
  clear hp
  intro bl s hp _
  conv => whnf
  refine Sm.live [0, 5, 6, 7] ?_
  conv => whnf
  refine Sm.seq ?_
  refine Sm.seqW ?_
  conv => whnf
  refine Sm.block ?_
  refine Sm.loop ?_
  refine Lp.ofS (α := Nat × Option Nat × Value × Option Nat × Value) (fun x => [(0, .slice a l.length c), (5, x.2.2.1), (6, x.2.2.2.2), (7, .slice (some ⟨bl, 0, none⟩) 4 4), (8, .int .i64 ((2 * x.1 : Nat) : Int))])
    (fun x s' => 2 * x.1 ≤ l.length ∧ x.1 ≤ 20 ∧ Hp X s0 R (onA x.2.1 x.2.2.1 10 x.1 (rvCells (tabN l x.1)) :: onA x.2.2.2.1 x.2.2.2.2 10 x.1 (rvCells (tabN l x.1)) :: blkA bl bl labC 2 :: F) s')
    (fun x => 20 - x.1) ?_ (0, none, .slice none 0 0, none, .slice none 0 0) (subK_ok (by refine ⟨rfl, rfl, rfl, rfl, rfl, trivial⟩))
    ⟨by omega, by omega, (hp.push (a := onA none (.slice none 0 0) 10 0 []) (.refl hp.wf) ⟨.inl ⟨rfl, rfl, rfl, rfl⟩⟩ fun j hj => by cases hj).push (a := onA none (.slice none 0 0) 10 0 []) (.refl hp.wf) ⟨.inl ⟨rfl, rfl, rfl, rfl⟩⟩ fun j hj => by cases hj⟩
  clear hp
  rintro ⟨k, κa, va, κb, vb⟩ s ⟨hk, hk20, hp⟩
  simp only at hk hk20 hp
  have e1 : IntKind.i64.wrap (((2 * k : Nat) : Int) + 1) = ((2 * k + 1 : Nat) : Int) := by rw [wi64 (by omega) (by omega)]; push_cast; rfl
  refine Sm.seq ?_
  refine Sm.seqC (fun e L' s' => e = .normal ∧ s' = s ∧ ∃ q, Sub [(0, .slice a l.length c), (5, va), (6, vb), (7, .slice (some ⟨bl, 0, none⟩) 4 4), (8, .int .i64 ((2 * k : Nat) : Int)), (24, .bool q)] L' ∧ (q = true ↔ (2 * k + 1 < l.length ∧ k < 20))) ?_ ?_
  · conv => whnf
    by_cases c1 : 2 * k + 1 < l.length
    · have d1 : decide (IntKind.i64.wrap (((2 * k : Nat) : Int) + 1) < (l.length : Int)) = true := by rw [e1]; exact decide_eq_true (by omega)
      repeat (first | (refine Br.yes (by first | with_reducible rfl | exact d1) ?_; conv => whnf))
      exact ⟨rfl, rfl, _, subK_ok ⟨rfl, rfl, rfl, rfl, rfl, rfl, trivial⟩, by rw [decide_eq_true_eq]; omega⟩
    · have d1 : decide (IntKind.i64.wrap (((2 * k : Nat) : Int) + 1) < (l.length : Int)) = false := by rw [e1]; exact decide_eq_false (by omega)
      repeat (first | (refine Br.no (by first | with_reducible rfl | exact d1) ?_; conv => whnf))
      exact ⟨rfl, rfl, false, subK_ok ⟨rfl, rfl, rfl, rfl, rfl, rfl, trivial⟩, by simp; omega⟩
  rintro e L' s ⟨rfl, rfl, q, hsub, hq⟩
  refine Sm.weak _ hsub ?_
  clear hsub
  refine Sm.ofW ?_
  conv => whnf
  cases q with
  | false =>
    have hkk : k = min 20 (l.length / 2) := by
      have : ¬ (2 * k + 1 < l.length ∧ k < 20) := fun h => by have := hq.2 h; cases this
      omega
    refine Br.no rfl ?_
    conv => whnf
    refine Sm.seqW ?_
    conv => whnf
    refine Sm.ofW ?_
    conv => whnf
    have ht : tabN l k = tabF l := by unfold tabF; rw [← hkk]
    have hlen : (tabF l).length = k := by rw [← ht]; simp [tabN]
    refine ⟨hK κa va κb vb bl _ ?_⟩
    rw [hlen, ← ht]
    exact hp
  | true =>
    obtain ⟨hk1, hk2⟩ := hq.1 rfl
    refine Br.yes rfl ?_
    conv => whnf
    refine Sm.seq ?_
    refine Sm.block ?_
    obtain ⟨x, hx⟩ : ∃ x, l[2 * k]? = some x := ⟨_, List.getElem?_eq_getElem (by omega)⟩
    obtain ⟨y, hy⟩ : ∃ y, l[2 * k + 1]? = some y := ⟨_, List.getElem?_eq_getElem (by omega)⟩
    have hxr : inR x := hin _ (List.mem_of_getElem? hx)
    have hyr : inR y := hin _ (List.mem_of_getElem? hy)
    have hrow : rowF (l.getD (2 * k) 0) (l.getD (2 * k + 1) 0) = rowF x y := by rw [List.getD_eq_getElem?_getD, List.getD_eq_getElem?_getD, hx, hy]; rfl
    obtain ⟨p, z1, i1, h1, g1, ap, rfl⟩ := index_sl IL Tryz.underlying3 rfl (hp.slR hv) .i64 (i := 2 * k) (by omega)
    obtain rfl : z1 = .int .i64 x := by simp [hx] at h1; exact h1.symm
    obtain ⟨p, z2, i2, h2, g2, aq, rfl⟩ := index_sl IL Tryz.underlying3 rfl (hp.slR hv) .i64 (i := 2 * k + 1) (by omega)
    obtain rfl : z2 = .int .i64 y := by simp [hy] at h2; exact h2.symm
    clear h1 h2
    refine Sm.seqW ?_
    conv => whnf
    refine Om.of _ (i1) ?_
    conv => whnf
    refine Om.of _ (g1) ?_
    conv => whnf
    refine (pick_spec _ hxr (by omega) (by omega)).mono ?_
    rintro _ s' ⟨h, rfl⟩
    rw [h]
    clear h s'
    conv => whnf
    refine Sm.live [0, 5, 6, 7, 8, 9] ?_
    conv => whnf
    refine Sm.seqW ?_
    conv => whnf
    refine ⟨[0, 0, 0, 6, 14, 30, 62, 0, 0, 384, 896, 1920, 4094, 0, 0, 24576, 57344, 122880, 262142, 524286, 0, 0, 2097152, 7340032, 15728640, 33030142, 66584574, 0, 0, 268435456, 939524096, 2013265920, 4160749568, 8522301438, 17179344894, 0, 0, 103079215104, 240518168576, 549755813887, 0, 2199023255551], by decide +kernel, by decide +kernel, ?_⟩
    conv => whnf
    refine Om.of _ (i1) ?_
    conv => whnf
    refine Om.of _ (g1) ?_
    conv => whnf
    refine Om.of _ ((quo_int (by omega) hxr).1) ?_
    conv => whnf
    refine (pick_spec _ (quo_int (P := Tryz.prog) (t := 0) (cst := true) (m := 4) (by omega) hxr).2 (by omega) (by omega)).mono ?_
    rintro _ s' ⟨h, rfl⟩
    rw [h]
    clear h s'
    conv => whnf
    refine hp.dkS ?_
    conv => whnf
    refine Om.of _ (i1) ?_
    conv => whnf
    refine Om.of _ (g1) ?_
    conv => whnf
    refine Om.of _ ((quo_int (by omega) hxr).1) ?_
    conv => whnf
    refine (pick_spec _ (quo_int (P := Tryz.prog) (t := 0) (cst := true) (m := 64) (by omega) hxr).2 (by omega) (by omega)).mono ?_
    rintro _ s' ⟨h, rfl⟩
    rw [h]
    clear h s'
    conv => whnf
    refine hp.dkS ?_
    conv => whnf
    refine Om.of _ (i1) ?_
    conv => whnf
    refine Om.of _ (g1) ?_
    conv => whnf
    refine Om.of _ ((quo_int (by omega) hxr).1) ?_
    conv => whnf
    refine (pick_spec _ (quo_int (P := Tryz.prog) (t := 0) (cst := true) (m := 192) (by omega) hxr).2 (by omega) (by omega)).mono ?_
    rintro _ s' ⟨h, rfl⟩
    rw [h]
    clear h s'
    conv => whnf
    refine hp.dkS ?_
    conv => whnf
    rw [e1]
    refine Om.of _ (i2) ?_
    conv => whnf
    refine Om.of _ (g2) ?_
    conv => whnf
    refine (pick_spec _ hyr (by omega) (by omega)).mono ?_
    rintro _ s' ⟨h, rfl⟩
    rw [h]
    clear h s'
    conv => whnf
    refine hp.dkS ?_
    conv => whnf
    rw [e1]
    refine Om.of _ (i2) ?_
    conv => whnf
    refine Om.of _ (g2) ?_
    conv => whnf
    refine Om.of _ ((quo_int (by omega) hyr).1) ?_
    conv => whnf
    refine (pick_spec _ (quo_int (P := Tryz.prog) (t := 0) (cst := true) (m := 7) (by omega) hyr).2 (by omega) (by omega)).mono ?_
    rintro _ s' ⟨h, rfl⟩
    rw [h]
    clear h s'
    conv => whnf
    refine hp.dkS ?_
    conv => whnf
    have e2 : IntKind.i64.wrap (y % 20001 - 10000) = y % 20001 - 10000 := wi64 (by omega) (by omega)
    have e3 : IntKind.i64.wrap (x.tdiv 192 % 4 - 1) = x.tdiv 192 % 4 - 1 := wi64 (by omega) (by omega)
    rw [e2, e3]
    refine hp.rst.call (rof_spec hp.rst.wf (n := y % 20001 - 10000) (by unfold inR; omega) (y.tdiv 7 % 3)) ?_
    rintro _ s1 rfl h1 k1
    conv => whnf
    refine hp.dkN h1 k1 ?_
    clear hp h1 k1
    intro s hp
    conv => whnf
    obtain ⟨e, he, he4⟩ : ∃ e : Nat, x % 4 = (e : Int) ∧ e < 4 := ⟨(x % 4).toNat, by omega, by omega⟩
    refine Om.of _ ((congrArg (fun z => evIndexAddr Tryz.prog 60 (.slice (some ⟨bl, 0, none⟩) 4 4) (.int .i64 z)) he).trans (idx_at RLb .i64 he4)) ?_
    conv => whnf
    refine hp.loadA (l := (labE (e : Int)).cells) (by repeat (first | exact Has.here | apply Has.there | (apply Has.swap; repeat (first | exact HasR.here | apply HasR.there)))) rfl (labC_at he4) rfl rfl ?_
    conv => whnf
    rw [← he]
    have hrv : (rowF x y).cells = (rowF x y).cells := rfl
    refine hp.rst.alloc (cs := Rv.cells ⟨0, 0, 0, 0, ⟨false, 0, 0⟩, ⟨0, 0⟩⟩) (e := 10) rfl rfl rfl rfl rfl ?_
    intro p10 s1 h1 k1
    conv => whnf
    refine hp.dkN h1 k1 ?_
    clear hp h1 k1
    intro s hp
    conv => whnf
    refine hp.rst.storeW (vs := (rowF x y).cells) (C := Rv.cells ⟨0, 0, 0, 0, ⟨false, 0, 0⟩, ⟨0, 0⟩⟩) rfl (by repeat (first | exact Rm.here | apply Rm.there)) (by rfl) rfl rfl rfl ?_
    intro s1 h1 l1
    conv => whnf
    refine hp.dkW h1 l1 ?_
    clear hp h1 l1
    intro s hp
    conv => whnf
    have hsn : rvCells (tabN l k) ++ (rowF x y).cells = rvCells (tabN l (k + 1)) := by rw [tabN_succ, rvCells_append, hrow]; simp [rvCells]
    have e6 : IntKind.i64.wrap (((2 * k : Nat) : Int) + 2) = ((2 * (k + 1) : Nat) : Int) := by rw [wi64 (by omega) (by omega)]; push_cast; omega
    generalize rowF x y = r at hp hsn
    refine Sm.live [0, 5, 6, 7, 8, 10] ?_
    conv => whnf
    refine Sm.seqW ?_
    conv => whnf
    refine hp.loadA (l := r.cells) (by repeat (first | exact Has.here | apply Has.there | (apply Has.swap; repeat (first | exact HasR.here | apply HasR.there)))) rfl (by rfl) rfl rfl ?_
    conv => whnf
    refine hp.lit (cs := r.cells) (e := 10) rfl ?_
    clear hp
    intro b8 s hp _
    conv => whnf
    refine hp.app RD Tryz.underlying59 rfl (κ := κb) (v := vb) (by repeat (first | exact Rm.here | apply Rm.there)) (elems_sl (hp.blkSl (n := 1) (m := (by repeat (first | exact Has.here | apply Has.there | (apply Has.swap; repeat (first | exact HasR.here | apply HasR.there))) : Has (blkA b8 b8 r.cells 10) _ _)) rfl)) rfl rfl (by omega) ?_
    clear hp
    intro v9 κ9 s hp
    conv => whnf
    refine Sm.live [0, 5, 6, 7, 8, 10] ?_
    conv => whnf
    refine Sm.ofW ?_
    conv => whnf
    refine hp.loadA (l := r.cells) (by repeat (first | exact Has.here | apply Has.there | (apply Has.swap; repeat (first | exact HasR.here | apply HasR.there)))) rfl (by rfl) rfl rfl ?_
    conv => whnf
    refine hp.lit (cs := r.cells) (e := 10) rfl ?_
    clear hp
    intro b11 s hp _
    conv => whnf
    refine hp.app RV Tryz.underlying58 rfl (κ := κa) (v := va) (by repeat (first | exact Rm.here | apply Rm.there)) (elems_sl (hp.blkSl (n := 1) (m := (by repeat (first | exact Has.here | apply Has.there | (apply Has.swap; repeat (first | exact HasR.here | apply HasR.there))) : Has (blkA b11 b11 r.cells 10) _ _)) rfl)) rfl rfl (by omega) ?_
    clear hp
    intro v12 κ12 s hp
    conv => whnf
    refine Sm.ofW ?_
    conv => whnf
    rw [hsn] at hp
    exact ⟨(k + 1, κ12, v12, κ9, v9), by (show 20 - (k + 1) < 20 - k); omega, subK_ok (by refine ⟨rfl, rfl, rfl, rfl, congrArg (fun x => some (Value.int .i64 x)) e6, trivial⟩), by (show 2 * (k + 1) ≤ l.length); omega, by (show k + 1 ≤ 20); omega, hp.pik (by repeat (first | exact Pik.nil | exact Pik.refl _ | exact Rm.here | apply Rm.there | apply Pik.cons | apply Pik.skip))⟩
end
end Go.Ev
end

/- Views: what is seen of rows, sums, functions over slices. No condition. -/
noncomputable section
namespace Go.Ev
open Go.Proofs
variable [Lk]
set_option linter.unusedSectionVars false
set_option linter.unusedVariables false
set_option maxRecDepth 100000

/-- One element of a slice of structs. -/
theorem u_load_agg {P : Program} {t : TypeId} {fs : Array Field} {i : TypeInfo} (hu : P.underlying t = some (.struct fs)) (hi : P.info? t = some i) {s : St} {b off : Nat} {C cs : List Value} (hr : s.rd b = some C) (hs : sl C off i.size = some cs) :
    evLoad P t (.pointer (some ⟨b, off, none⟩)) s = some (.agg cs.toArray) := by
  unfold evLoad
  simp only [hr, hu, hi, hs]
theorem u_sl_sub {C cs : List Value} {off n i m : Nat} (h : Go.Ev.sl C off n = some cs) (hi : i + m ≤ n) : Go.Ev.sl C (off + i) m = some ((cs.drop i).take m) := by
  obtain ⟨g1, g2, g3, _⟩ := sl_some h
  have e : (List.drop (off + i) C).take m = (cs.drop i).take m := by
    rw [g2, List.drop_take, List.drop_drop, List.take_take, Nat.min_eq_left (by omega)]
  have hl : cs.length = n := by rw [g2]; simp; omega
  unfold Go.Ev.sl
  simp only [e]
  have : ((cs.drop i).take m).length = m := by simp; omega
  rw [this]; simp
theorem index_uN {P : Program} {t et sz by_ : Nat} {z : Value} (T : SlT P t et sz by_ z) {fs : Array Field} (hu : P.underlying et = some (.struct fs)) {s : St} {κ : Option Nat} {v : Value} {n i : Nat} {cs : List Value} (h : Sl s κ v sz n cs) (k : IntKind) (hi : i < n) :
    ∃ a, evIndexAddr P t v (.int k (i : Int)) = some (.pointer (some a)) ∧ evLoad P et (.pointer (some a)) s = some (.agg ((cs.drop (i * sz)).take sz).toArray) := by
  obtain ⟨j, hi1, hi2, hi3, hi4⟩ := T.hi
  rcases h.ex with ⟨rfl, rfl, rfl, rfl⟩ | ⟨b, off, c, C, rfl, hc, hl, hs, hm⟩
  · omega
  · have hr : s.rd b = some C := by
      rcases hm with ⟨k, _, hm⟩ | ⟨_, hm⟩
      · exact hm.rd
      · exact hm.rd
    have hle : i * sz + sz ≤ n * sz := by
      have : (i + 1) * sz ≤ n * sz := Nat.mul_le_mul_right _ hi
      rw [Nat.add_mul, Nat.one_mul] at this; exact this
    refine ⟨⟨b, off + i * sz, none⟩, ?_, u_load_agg hu hi1 hr (by rw [hi2]; exact u_sl_sub hs hle)⟩
    show (match P.underlying t, Value.slice (some ⟨b, off, none⟩) n c, Value.int k (.ofNat i) with
        | some (.slice e), .slice (some a) n _, .int _ (.ofNat i) => match Nat.blt i n, P.info? e with
          | true, some j => some (Value.pointer (some ⟨a.block, a.off + i * j.size, none⟩))
          | _, _ => none
        | some (.array n e), .pointer (some a), .int _ (.ofNat i) => match Nat.blt i n, P.info? e with
          | true, some j => some (Value.pointer (some ⟨a.block, a.off + i * j.size, none⟩))
          | _, _ => none
        | _, _, _ => none) = _
    rw [T.hu]
    simp only [blt_of hi, hi1, hi2]
theorem index_rv {s : St} {κ : Option Nat} {v : Value} {l : List Rv} (h : Sl s κ v 10 l.length (rvCells l)) (k : IntKind) {i : Nat} (hi : i < l.length) :
    ∃ a, evIndexAddr Tryz.prog 58 v (.int k (i : Int)) = some (.pointer (some a)) ∧ evLoad Tryz.prog 74 (.pointer (some a)) s = some l[i].val := by
  obtain ⟨a, e1, e2⟩ := index_uN RV Tryz.underlying74 h k hi
  rw [rv_at hi] at e2
  exact ⟨a, e1, e2⟩
theorem seesF_snoc (rows : List Rv) (c : Lb) {i : Nat} (hi : i < rows.length) : seesF (rows.take (i + 1)) c = seesF (rows.take i) c ++ (if belowF rows[i].l c = true then [rows[i]] else []) := by
  unfold seesF
  rw [List.take_succ_eq_append_getElem hi, List.filter_append]
  congr 1
  simp only [List.filter_cons, List.filter_nil]
theorem sees_spec {z : St} (wf : WF z) {κ : Option Nat} {v : Value} {rows : List Rv} (hv : Sl z κ v 10 rows.length (rvCells rows)) (hr : ∀ r ∈ rows, r.l.ok) (hn : rows.length ≤ 100) {c : Lb} (hc : c.ok) :
    Cw Tryz.prog 54 [v, c.val] z fun r s' => K0 z s' ∧ OwnN z.next s' r 10 (seesF rows c).length (rvCells (seesF rows c)) := by
  have hp : Hp (fun _ => False) z [slA κ v 10 rows.length (rvCells rows)] [] z := Hp.start _ wf _ (by simp; exact hv)
  obtain ⟨a, cp, rfl⟩ := hv.shape
  refine Cw.enterS Tryz.func54 rfl rfl ?_
  refine Sm.seqW ?_
  conv => whnf
  refine hp.var (cs := c.cells) (e := 2) rfl rfl ?_
  clear hp
  intro p3 s hp _
  conv => whnf
  refine Sm.live [0, 3] ?_
  conv => whnf
  refine Sm.seqW ?_
  conv => whnf
  refine Sm.live [0, 3, 5] ?_
  conv => whnf
  refine Sm.seq ?_
  refine Sm.seqW ?_
  conv => whnf
  refine Sm.live [3, 5, 8, 9, 10] ?_
  conv => whnf
  refine Sm.block ?_
  refine Sm.loop ?_
  refine Lp.ofS (α := Nat × Option Nat × Value) (fun x => [(3, .pointer (some ⟨p3, 0, none⟩)), (5, x.2.2), (8, .slice a rows.length cp), (9, .int .i64 (rows.length : Int)), (10, .int .i64 (x.1 : Int))])
    (fun x s' => x.1 ≤ rows.length ∧ Hp (fun _ => False) z [slA κ (.slice a rows.length cp) 10 rows.length (rvCells rows)] [onA x.2.1 x.2.2 10 (seesF (rows.take x.1) c).length (rvCells (seesF (rows.take x.1) c)), blkA p3 p3 c.cells 2] s')
    (fun x => rows.length - x.1) ?_ (0, none, .slice none 0 0) (subK_ok (by refine ⟨rfl, rfl, rfl, rfl, rfl, trivial⟩)) ⟨Nat.zero_le _, hp.push (a := onA none (.slice none 0 0) 10 0 []) (.refl hp.wf) ⟨.inl ⟨rfl, rfl, rfl, rfl⟩⟩ fun j hj => by cases hj⟩
  clear hp
  rintro ⟨i, κo, vo⟩ s ⟨hi, hp⟩
  simp only at hi hp
  refine Sm.seqW ?_
  conv => whnf
  refine Sm.seq ?_
  refine Sm.ofW ?_
  conv => whnf
  refine Br.mk (fun hq => ?_) (fun hq => ?_)
  · have hi2 : i < rows.length := by have := of_decide_eq_true hq; omega
    have e6 : IntKind.i64.wrap ((i : Int) + 1) = ((i + 1 : Nat) : Int) := by rw [wi64 (by omega) (by omega)]; omega
    have hsn := seesF_snoc rows c hi2
    have hfl : (seesF (rows.take i) c).length ≤ i := by
      have := List.length_filter_le (fun r : Rv => belowF r.l c) (rows.take i)
      unfold seesF
      have h2 : (rows.take i).length ≤ i := by simp; omega
      omega
    conv => whnf
    refine Sm.seq ?_
    refine Sm.block ?_
    refine Sm.seqW ?_
    conv => whnf
    obtain ⟨p, e1, e2⟩ := index_rv (hp.slR .here) .i64 hi2
    refine Om.of _ (e1) ?_
    conv => whnf
    refine Om.of _ (e2) ?_
    conv => whnf
    have hrl := hr _ (List.getElem_mem hi2)
    generalize rows[i] = r at hsn hrl
    clear e1 e2
    refine hp.alloc (cs := Rv.cells ⟨0, 0, 0, 0, ⟨false, 0, 0⟩, ⟨0, 0⟩⟩) (e := 10) rfl rfl rfl rfl rfl ?_
    clear hp
    intro p7 s hp _
    conv => whnf
    refine hp.storeW (vs := r.cells) (C := Rv.cells ⟨0, 0, 0, 0, ⟨false, 0, 0⟩, ⟨0, 0⟩⟩) rfl (by repeat (first | exact Rm.here | apply Rm.there)) (by rfl) rfl rfl rfl ?_
    clear hp
    intro s hp _
    conv => whnf
    refine Sm.live [3, 5, 7, 8, 9, 10] ?_
    conv => whnf
    refine Sm.seqW ?_
    conv => whnf
    refine hp.loadA (l := r.l.cells) (by repeat (first | exact Has.here | apply Has.there | (apply Has.swap; repeat (first | exact HasR.here | apply HasR.there)))) rfl (by rfl) rfl rfl ?_
    conv => whnf
    refine hp.loadA (l := c.cells) (by repeat (first | exact Has.here | apply Has.there | (apply Has.swap; repeat (first | exact HasR.here | apply HasR.there)))) rfl (by rfl) rfl rfl ?_
    conv => whnf
    refine hp.call (below_spec hp.wf hrl hc) ?_
    clear hp
    rintro _ s rfl hp _
    conv => whnf
    refine Sm.ofW ?_
    conv => whnf
    cases hb : belowF r.l c with
    | true =>
      rw [if_pos hb] at hsn
      refine Br.yes rfl ?_
      conv => whnf
      refine hp.loadA (l := r.cells) (by repeat (first | exact Has.here | apply Has.there | (apply Has.swap; repeat (first | exact HasR.here | apply HasR.there)))) rfl (by rfl) rfl rfl ?_
      conv => whnf
      refine hp.lit (cs := r.cells) (e := 10) rfl ?_
      clear hp
      intro b8 s hp _
      conv => whnf
      refine hp.app RV Tryz.underlying58 rfl (κ := κo) (v := vo) (by repeat (first | exact Rm.here | apply Rm.there)) (elems_sl (hp.blkSl (n := 1) (m := (by repeat (first | exact Has.here | apply Has.there | (apply Has.swap; repeat (first | exact HasR.here | apply HasR.there))) : Has (blkA b8 b8 r.cells 10) _ _)) rfl)) rfl rfl (by omega) ?_
      clear hp
      intro v9 κ9 s hp
      conv => whnf
      refine Sm.ofW ?_
      conv => whnf
      have hq2 : rvCells (seesF (rows.take i) c) ++ r.cells = rvCells (seesF (rows.take (i + 1)) c) := by rw [hsn, rvCells_append]; simp [rvCells]
      have hq3 : (seesF (rows.take i) c).length + 1 = (seesF (rows.take (i + 1)) c).length := by rw [hsn]; simp
      rw [hq2, hq3] at hp
      exact ⟨(i + 1, κ9, v9), by (show rows.length - (i + 1) < rows.length - i); omega, subK_ok (by refine ⟨rfl, rfl, rfl, rfl, congrArg (fun x => some (Value.int .i64 x)) e6, trivial⟩), hi2, hp.pik (by repeat (first | exact Pik.nil | exact Pik.refl _ | exact Rm.here | apply Rm.there | apply Pik.cons | apply Pik.skip))⟩
    | false =>
      rw [if_neg (by rw [hb]; decide), List.append_nil] at hsn
      refine Br.no rfl ?_
      conv => whnf
      refine Sm.ofW ?_
      conv => whnf
      rw [← hsn] at hp
      exact ⟨(i + 1, κo, vo), by (show rows.length - (i + 1) < rows.length - i); omega, subK_ok (by refine ⟨rfl, rfl, rfl, rfl, congrArg (fun x => some (Value.int .i64 x)) e6, trivial⟩), hi2, hp.pik (by repeat (first | exact Pik.nil | exact Pik.refl _ | exact Rm.here | apply Rm.there | apply Pik.cons | apply Pik.skip))⟩
  · have hi2 : i = rows.length := by have := of_decide_eq_false hq; omega
    subst hi2
    rw [List.take_of_length_le (Nat.le_refl _)] at hp
    conv => whnf
    refine Sm.seqW ?_
    conv => whnf
    refine Sm.ofW ?_
    conv => whnf
    exact ⟨hp.fr, hp.out .here⟩
theorem sumP_take (rows : List Rv) {i : Nat} (hi : i < rows.length) : sumP (rows.take (i + 1)) = addP (sumP (rows.take i)) rows[i].pr := by rw [List.take_succ_eq_append_getElem hi, sumP_snoc]
theorem joinL_take (rows : List Rv) {i : Nat} (hi : i < rows.length) : joinL (rows.take (i + 1)) = joinF (joinL (rows.take i)) rows[i].l := by rw [List.take_succ_eq_append_getElem hi, joinL_snoc]
theorem mkD_cu {x S : Int} (h : x.natAbs ≤ 1000000000) : (mkD x S).c < w128 := by
  unfold mkD w128
  simp only
  omega
theorem sum_spec {z : St} (wf : WF z) {κ : Option Nat} {v : Value} {rows : List Rv} (hv : Sl z κ v 10 rows.length (rvCells rows)) (hr : ∀ r ∈ rows, r.ok) (hn : rows.length ≤ 100) (key : Int) :
    Cw Tryz.prog 109 [v, .int .i64 key] z fun r s' => K0 z s' ∧ r = .tuple #[(Ov.mk key (mkD (sumP rows).1 (sumP rows).2) (joinL rows)).val, .int .i64 0] := by
  have hp : Hp (fun _ => False) z [slA κ v 10 rows.length (rvCells rows)] [] z := Hp.start _ wf _ (by simp; exact hv)
  obtain ⟨a, cp, rfl⟩ := hv.shape
  refine Cw.enterS Tryz.func109 rfl rfl ?_
  refine Sm.seqW ?_
  conv => whnf
  refine hp.alloc (cs := Ov.zero.cells) (e := 7) rfl rfl rfl rfl rfl ?_
  clear hp
  intro p4 s hp _
  conv => whnf
  refine Sm.live [0, 1, 4] ?_
  conv => whnf
  refine Sm.seqW ?_
  conv => whnf
  refine hp.alloc (cs := Ov.zero.cells) (e := 7) rfl rfl rfl rfl rfl ?_
  clear hp
  intro p6 s hp _
  conv => whnf
  refine hp.storeW (vs := (Ov.mk key ⟨false, 0, 0⟩ ⟨0, 0⟩).cells) (C := Ov.zero.cells) (by simp [putAt, Ov.cells, Value.cells]) (by repeat (first | exact Rm.here | apply Rm.there)) (by rfl) rfl rfl rfl ?_
  clear hp
  intro s hp _
  conv => whnf
  refine Sm.live [0, 4, 6] ?_
  conv => whnf
  refine Sm.seq ?_
  refine Sm.seqW ?_
  conv => whnf
  refine Sm.live [4, 6, 12, 13, 14] ?_
  conv => whnf
  refine Sm.block ?_
  refine Sm.loop ?_
  have h0 : Ov.mk key (mkD (sumP (rows.take 0)).1 (sumP (rows.take 0)).2) (joinL (rows.take 0)) = Ov.mk key ⟨false, 0, 0⟩ ⟨0, 0⟩ := by rw [List.take_zero]; rfl
  refine Lp.ofS (α := Nat) (fun x => [(4, .pointer (some ⟨p4, 0, none⟩)), (6, .pointer (some ⟨p6, 0, none⟩)), (12, .slice a rows.length cp), (13, .int .i64 (rows.length : Int)), (14, .int .i64 (x : Int))])
    (fun x s' => x ≤ rows.length ∧ Hp (fun _ => False) z [slA κ (.slice a rows.length cp) 10 rows.length (rvCells rows)] [blkA p6 p6 (Ov.mk key (mkD (sumP (rows.take x)).1 (sumP (rows.take x)).2) (joinL (rows.take x))).cells 7, blkA p4 p4 Ov.zero.cells 7] s')
    (fun x => rows.length - x) ?_ 0 (subK_ok (by refine ⟨rfl, rfl, rfl, rfl, rfl, trivial⟩)) ⟨Nat.zero_le _, by rw [h0]; exact hp.pik (by repeat (first | exact Pik.nil | exact Pik.refl _ | exact Rm.here | apply Rm.there | apply Pik.cons | apply Pik.skip))⟩
  clear hp h0
  rintro i s ⟨hi, hp⟩
  refine Sm.seqW ?_
  conv => whnf
  refine Sm.seq ?_
  refine Sm.ofW ?_
  conv => whnf
  refine Br.mk (fun hq => ?_) (fun hq => ?_)
  · have hi2 : i < rows.length := by have := of_decide_eq_true hq; omega
    have e6 : IntKind.i64.wrap ((i : Int) + 1) = ((i + 1 : Nat) : Int) := by rw [wi64 (by omega) (by omega)]; omega
    have h1 := sumP_take rows hi2
    have h2 := joinL_take rows hi2
    have hro := hr _ (List.getElem_mem hi2)
    obtain ⟨b1, b2, b3⟩ := sumP_lim (l := rows.take i) (fun x hx => hr x (List.mem_of_mem_take hx)) (by simp; omega)
    have hjs := joinL_sm (l := rows.take i) (fun x hx => (hr x (List.mem_of_mem_take hx)).l)
    conv => whnf
    refine Sm.seq ?_
    refine Sm.block ?_
    refine Sm.seqW ?_
    conv => whnf
    obtain ⟨p, e1, e2⟩ := index_rv (hp.slR .here) .i64 hi2
    refine Om.of _ (e1) ?_
    conv => whnf
    refine Om.of _ (e2) ?_
    conv => whnf
    generalize rows[i] = r at h1 h2 hro
    clear e1 e2
    obtain ⟨q1, q2, q3, q4⟩ := pr_ok hro
    refine hp.alloc (cs := Rv.cells ⟨0, 0, 0, 0, ⟨false, 0, 0⟩, ⟨0, 0⟩⟩) (e := 10) rfl rfl rfl rfl rfl ?_
    clear hp
    intro p7 s hp _
    conv => whnf
    refine hp.storeW (vs := r.cells) (C := Rv.cells ⟨0, 0, 0, 0, ⟨false, 0, 0⟩, ⟨0, 0⟩⟩) rfl (by repeat (first | exact Rm.here | apply Rm.there)) (by rfl) rfl rfl rfl ?_
    clear hp
    intro s hp _
    conv => whnf
    generalize sumP (rows.take i) = P at h1 b1 b2 b3 hp
    generalize joinL (rows.take i) = J at h2 hjs hp
    refine Sm.live [4, 6, 8, 12, 13, 14] ?_
    conv => whnf
    refine Sm.seqW ?_
    conv => whnf
    refine Sm.live [4, 6, 8, 12, 13, 14] ?_
    conv => whnf
    refine Sm.seq ?_
    refine Sm.seqW ?_
    conv => whnf
    refine hp.loadA (l := (mkD P.1 P.2).cells) (by repeat (first | exact Has.here | apply Has.there | (apply Has.swap; repeat (first | exact HasR.here | apply HasR.there)))) rfl (by rfl) rfl rfl ?_
    conv => whnf
    refine hp.loadA (l := r.am.cells) (by repeat (first | exact Has.here | apply Has.there | (apply Has.swap; repeat (first | exact HasR.here | apply HasR.there)))) rfl (by rfl) rfl rfl ?_
    conv => whnf
    have hadd := addF_P b1 (by omega : r.pr.1.natAbs ≤ 1000000000) b2 b3 q3 q4
    rw [← q1] at hadd
    refine hp.call (decAdd_spec hp.wf (mkD P.1 P.2) r.am (mkD_cu b1) (by rw [q1]; exact mkD_cu (by omega))) ?_
    clear hp
    rw [hadd, ← h1]
    rintro _ s rfl hp _
    conv => whnf
    generalize hP' : sumP (rows.take (i + 1)) = P' at h1
    have hpa1 : ∀ d : Dc, putAt (Ov.mk key (mkD P.1 P.2) J).cells 1 d.cells = (Ov.mk key d J).cells := fun d => by simp [putAt, Ov.cells, Dc.cells]
    have hpa2 : ∀ j : Lb, putAt (Ov.mk key (mkD P'.1 P'.2) J).cells 5 j.cells = (Ov.mk key (mkD P'.1 P'.2) j).cells := fun j => by simp [putAt, Ov.cells]
    refine hp.storeA (off := 1) (vs := (mkD P'.1 P'.2).cells) rfl (by repeat (first | exact Rm.here | apply Rm.there)) (Nat.le_of_ble_eq_true rfl) rfl rfl rfl ?_
    clear hp
    intro s hp _
    rw [hpa1] at hp
    conv => whnf
    refine Sm.live [4, 6, 8, 9, 12, 13, 14] ?_
    conv => whnf
    refine Sm.seqW ?_
    conv => whnf
    refine Sm.ofW ?_
    conv => whnf
    refine Br.no rfl ?_
    conv => whnf
    refine Sm.ofW ?_
    conv => whnf
    refine hp.loadA (l := J.cells) (by repeat (first | exact Has.here | apply Has.there | (apply Has.swap; repeat (first | exact HasR.here | apply HasR.there)))) rfl (by rfl) rfl rfl ?_
    conv => whnf
    refine hp.loadA (l := r.l.cells) (by repeat (first | exact Has.here | apply Has.there | (apply Has.swap; repeat (first | exact HasR.here | apply HasR.there)))) rfl (by rfl) rfl rfl ?_
    conv => whnf
    refine hp.call (join_spec hp.wf hjs.ok hro.l.ok) ?_
    clear hp
    rintro _ s rfl hp _
    conv => whnf
    rw [← h2]
    refine hp.storeA (off := 5) (vs := (joinL (rows.take (i + 1))).cells) rfl (by repeat (first | exact Rm.here | apply Rm.there)) (Nat.le_of_ble_eq_true rfl) rfl rfl rfl ?_
    clear hp
    intro s hp _
    rw [hpa2] at hp
    conv => whnf
    refine Sm.ofW ?_
    conv => whnf
    rw [← hP'] at hp
    exact ⟨i + 1, by (show rows.length - (i + 1) < rows.length - i); omega, subK_ok (by refine ⟨rfl, rfl, rfl, rfl, congrArg (fun x => some (Value.int .i64 x)) e6, trivial⟩), hi2, hp.pik (by repeat (first | exact Pik.nil | exact Pik.refl _ | exact Rm.here | apply Rm.there | apply Pik.cons | apply Pik.skip))⟩
  · have hi2 : i = rows.length := by have := of_decide_eq_false hq; omega
    subst hi2
    rw [List.take_of_length_le (Nat.le_refl _)] at hp
    conv => whnf
    refine Sm.seqW ?_
    conv => whnf
    refine hp.loadA (l := (Ov.mk key (mkD (sumP rows).1 (sumP rows).2) (joinL rows)).cells) (by repeat (first | exact Has.here | apply Has.there | (apply Has.swap; repeat (first | exact HasR.here | apply HasR.there)))) rfl (by rfl) rfl rfl ?_
    conv => whnf
    refine hp.storeW (vs := (Ov.mk key (mkD (sumP rows).1 (sumP rows).2) (joinL rows)).cells) (C := Ov.zero.cells) rfl (by repeat (first | exact Rm.here | apply Rm.there)) (by rfl) rfl rfl rfl ?_
    clear hp
    intro s hp _
    conv => whnf
    refine Sm.ofW ?_
    conv => whnf
    refine hp.loadA (l := (Ov.mk key (mkD (sumP rows).1 (sumP rows).2) (joinL rows)).cells) (by repeat (first | exact Has.here | apply Has.there | (apply Has.swap; repeat (first | exact HasR.here | apply HasR.there)))) rfl (by rfl) rfl rfl ?_
    conv => whnf
    exact ⟨hp.fr, rfl⟩
end Go.Ev
end

/- Views: a query of all rows, or of their sum. No condition. -/
noncomputable section
namespace Go.Ev
open Go.Proofs
variable [Lk]
set_option linter.unusedSectionVars false
set_option linter.unusedVariables false
set_option maxRecDepth 100000

theorem Hp.blkOnU {X : Nat → Prop} {s0 s : St} {R F G : List At} {k b e n : Nat} {C : List Value} (h : Hp X s0 R F s) (r : Rm (blkA k b C e) F G) (hl : C.length = n * e) : Hp X s0 R (onA (some k) (.slice (some ⟨b, 0, none⟩) n n) e n C :: G) s :=
  h.as r (fun hb => ⟨.inr ⟨k, rfl, b, rfl, hb, hl⟩⟩) fun j hj => by (injection hj with hj); exact hj.symm
/-- Where no row is to go. -/
theorem indexf_spec {z : St} (wf : WF z) {κ : Option Nat} {v : Value} {rows : List Rv} (hv : Sl z κ v 10 rows.length (rvCells rows)) (hn : rows.length ≤ 100) {g : Nat} {us vs : Array Value}
    (hf : ∀ {s : St}, K0 z s → ∀ r ∈ rows, Cw Tryz.prog g (us.toList ++ [r.val] ++ vs.toList) s fun v s' => K0 s s' ∧ v = .bool false) :
    Cw Tryz.prog 108 [v, .func (.func g) us vs] z fun r s' => K0 z s' ∧ r = .int .i64 (-1) := by
  have hp : Hp (fun _ => False) z [slA κ v 10 rows.length (rvCells rows)] [] z := Hp.start _ wf _ (by simp; exact hv)
  obtain ⟨a, cp, rfl⟩ := hv.shape
  refine Cw.enterS Tryz.func108 rfl rfl ?_
  refine Sm.seqW ?_
  conv => whnf
  refine Sm.seq ?_
  refine Sm.seqW ?_
  conv => whnf
  refine Sm.live [0, 1, 7, 8] ?_
  conv => whnf
  refine Sm.block ?_
  refine Sm.loop ?_
  refine Lp.ofS (α := Nat) (fun x => [(0, .slice a rows.length cp), (1, .func (.func g) us vs), (7, .int .i64 (rows.length : Int)), (8, .int .i64 (x : Int))])
    (fun x s' => x ≤ rows.length ∧ Hp (fun _ => False) z [slA κ (.slice a rows.length cp) 10 rows.length (rvCells rows)] [] s')
    (fun x => rows.length - x) ?_ 0 (subK_ok (by refine ⟨rfl, rfl, rfl, rfl, trivial⟩)) ⟨Nat.zero_le _, hp⟩
  clear hp
  rintro i s ⟨hi, hp⟩
  refine Sm.seqW ?_
  conv => whnf
  refine Sm.seq ?_
  refine Sm.ofW ?_
  conv => whnf
  refine Br.mk (fun hq => ?_) (fun hq => ?_)
  · have hi2 : i < rows.length := by have := of_decide_eq_true hq; omega
    have e6 : IntKind.i64.wrap ((i : Int) + 1) = ((i + 1 : Nat) : Int) := by rw [wi64 (by omega) (by omega)]; omega
    conv => whnf
    refine Sm.seq ?_
    refine Sm.block ?_
    refine Sm.seqW ?_
    conv => whnf
    refine Sm.live [0, 1, 5, 7, 8] ?_
    conv => whnf
    refine Sm.seqW ?_
    conv => whnf
    obtain ⟨p, e1, e2⟩ := index_rv (hp.slR .here) .i64 hi2
    refine Om.of _ (e1) ?_
    conv => whnf
    refine Om.of _ (e2) ?_
    conv => whnf
    refine hp.call (hf hp.fr rows[i] (List.getElem_mem hi2)) ?_
    clear hp
    rintro _ s rfl hp _
    conv => whnf
    refine Sm.ofW ?_
    conv => whnf
    refine Br.no rfl ?_
    conv => whnf
    refine Sm.ofW ?_
    conv => whnf
    exact ⟨i + 1, by (show rows.length - (i + 1) < rows.length - i); omega, subK_ok (by refine ⟨rfl, rfl, rfl, congrArg (fun x => some (Value.int .i64 x)) e6, trivial⟩), hi2, hp⟩
  · conv => whnf
    refine Sm.seqW ?_
    conv => whnf
    refine Sm.ofW ?_
    conv => whnf
    exact ⟨hp.fr, rfl⟩
theorem deletef_spec {z : St} (wf : WF z) {κ : Option Nat} {v : Value} {rows : List Rv} (hv : Sl z κ v 10 rows.length (rvCells rows)) (hn : rows.length ≤ 100) {g : Nat} {us vs : Array Value}
    (hf : ∀ {s : St}, K0 z s → ∀ r ∈ rows, Cw Tryz.prog g (us.toList ++ [r.val] ++ vs.toList) s fun v s' => K0 s s' ∧ v = .bool false) :
    Cw Tryz.prog 53 [v, .func (.func g) us vs] z fun r s' => K0 z s' ∧ r = v := by
  have hp : Hp (fun _ => False) z [slA κ v 10 rows.length (rvCells rows)] [] z := Hp.start _ wf _ (by simp; exact hv)
  obtain ⟨a, cp, rfl⟩ := hv.shape
  refine Cw.enterS Tryz.func53 rfl rfl ?_
  refine Sm.seqW ?_
  conv => whnf
  refine Sm.seqW ?_
  conv => whnf
  refine hp.call (indexf_spec wf hv hn hf) ?_
  clear hp
  rintro _ s rfl hp _
  conv => whnf
  refine Sm.live [0, 1, 5] ?_
  conv => whnf
  refine Sm.seq ?_
  refine Sm.seqW ?_
  conv => whnf
  refine Sm.ofW ?_
  conv => whnf
  refine Br.yes rfl ?_
  conv => whnf
  exact ⟨hp.fr, rfl⟩
theorem ovclone_spec {s : St} (wf : WF s) {κ : Option Nat} {v : Value} {l : List Ov} (h : Sl s κ v 7 l.length (ovCells l)) (hl : l.length ≤ 100000) :
    Cw Tryz.prog 60 [v] s fun r s' => K0 s s' ∧ OwnN s.next s' r 7 l.length (ovCells l) := by
  refine Cw.enter Tryz.func60 rfl rfl ?_
  rcases h.ex with ⟨rfl, h1, h2, rfl⟩ | ⟨b, off, c, C, rfl, hc, hlen, hs, hm⟩
  · conv => whnf
    refine Om.of (.bool true) rfl ?_
    conv => whnf
    refine Br.yes rfl ?_
    conv => whnf
    exact ⟨⟨Kp.refl wf, ⟨.inl ⟨rfl, h1, h2⟩⟩⟩⟩
  · conv => whnf
    refine Om.of (.bool false) rfl ?_
    conv => whnf
    refine Br.no rfl ?_
    conv => whnf
    obtain ⟨v1, s1, e1, o1, k1⟩ := buildSlice0 RO7 wf
    refine Om.of (v1, s1) e1 ?_
    conv => whnf
    obtain ⟨v2, s2, e2, o2, k2⟩ := append_own RO7 Tryz.underlying63 rfl k1.wf o1 (elems_sl (h.keep0 k1)) (ovCells_length l) (ovCells_one l) (by omega)
    refine Om.of (v2, s2) e2 ?_
    conv => whnf
    rw [Nat.zero_add, List.nil_append] at o2
    exact ⟨⟨k1.trans k2 fun j hj => .inr (by omega), o2.n k2.wf (Nat.le_refl _)⟩⟩
theorem ovclip_spec {s : St} {m : Nat} {v : Value} {l : List Ov} (h : OwnN m s v 7 l.length (ovCells l)) :
    Cw Tryz.prog 59 [v] s fun r s' => s' = s ∧ r = v := by
  obtain ⟨a, c, rfl⟩ := h.shape
  refine Cw.enter Tryz.func59 rfl rfl ?_
  conv => whnf
  refine Om.of _ (clip_ownN RO7 h .i64 .i64) ?_
  conv => whnf
  exact ⟨⟨rfl, rfl⟩⟩
/-- A query of all rows, or of their sum. -/
def qCells (sum : Bool) : List Value := [.slice none 0 0, .int .i64 (-1), .int .i64 0, .bool sum, .bool false, .int .i64 0]
def qVal (sum : Bool) : Value := .agg #[.slice none 0 0, .int .i64 (-1), .int .i64 0, .bool sum, .bool false, .int .i64 0]
theorem holds_all {z : St} (wf : WF z) (sum : Bool) (r : Rv) : Cw Tryz.prog 29 [qVal sum, r.val] z fun v s' => K0 z s' ∧ v = .bool true := by
  have hp : Hp (fun _ => False) z [] [] z := Hp.start _ wf _ (by simp)
  refine Cw.enterS Tryz.func29 rfl rfl ?_
  refine Sm.seqW ?_
  conv => whnf
  refine hp.var (cs := qCells sum) (e := 6) rfl rfl ?_
  clear hp
  intro p2 s hp _
  conv => whnf
  refine hp.var (cs := r.cells) (e := 10) rfl rfl ?_
  clear hp
  intro p3 s hp _
  conv => whnf
  refine Sm.live [2, 3] ?_
  conv => whnf
  refine Sm.seq ?_
  refine Sm.seqW ?_
  conv => whnf
  (refine hp.load (by repeat (first | exact Has.here | apply Has.there | (apply Has.swap; repeat (first | exact HasR.here | apply HasR.there)))) (by rfl) rfl rfl rfl ?_; conv => whnf)
  refine Sm.ofW ?_
  conv => whnf
  refine Br.yes rfl ?_
  conv => whnf
  exact ⟨hp.fr, rfl⟩
theorem run1_all {z : St} (wf : WF z) {p : Nat} {sum : Bool} (hb : Blk z p p (qCells sum) 6) (r : Rv) : Cw Tryz.prog 55 [r.val, .pointer (some ⟨p, 0, none⟩)] z fun v s' => K0 z s' ∧ v = .bool false := by
  have hp : Hp (fun _ => False) z [blkA p p (qCells sum) 6] [] z := Hp.start _ wf _ (by simp; exact hb)
  refine Cw.enterS Tryz.func55 rfl rfl ?_
  refine Sm.seqW ?_
  conv => whnf
  refine hp.var (cs := r.cells) (e := 10) rfl rfl ?_
  clear hp
  intro p2 s hp _
  conv => whnf
  refine Sm.live [1, 2] ?_
  conv => whnf
  refine Sm.seqW ?_
  conv => whnf
  refine hp.loadA (l := qCells sum) (by repeat (first | exact Has.here | apply Has.there | (apply Has.swap; repeat (first | exact HasR.here | apply HasR.there)))) rfl (by rfl) rfl rfl ?_
  conv => whnf
  refine hp.loadA (l := r.cells) (by repeat (first | exact Has.here | apply Has.there | (apply Has.swap; repeat (first | exact HasR.here | apply HasR.there)))) rfl (by rfl) rfl rfl ?_
  conv => whnf
  refine hp.call (holds_all hp.wf sum r) ?_
  clear hp
  rintro _ s rfl hp _
  conv => whnf
  refine Sm.ofW ?_
  conv => whnf
  exact ⟨hp.fr, rfl⟩
theorem summed_spec {z : St} (wf : WF z) {κ : Option Nat} {v : Value} {rows : List Rv} (hv : Sl z κ v 10 rows.length (rvCells rows)) (hr : ∀ r ∈ rows, r.ok) (hn : rows.length ≤ 100) :
    Cw Tryz.prog 56 [v, .int .i64 0] z fun r s' => K0 z s' ∧ ∃ w, r = .tuple #[w, .int .i64 0] ∧ OwnN z.next s' w 7 1 (ovCells [⟨0, mkD (sumP rows).1 (sumP rows).2, joinL rows⟩]) := by
  have hp : Hp (fun _ => False) z [slA κ v 10 rows.length (rvCells rows)] [] z := Hp.start _ wf _ (by simp; exact hv)
  obtain ⟨a, cp, rfl⟩ := hv.shape
  refine Cw.enterS Tryz.func56 rfl rfl ?_
  refine Sm.seqW ?_
  conv => whnf
  refine Sm.seq ?_
  refine Sm.seqW ?_
  conv => whnf
  repeat (first | (refine Br.yes (by first | with_reducible rfl | with_reducible exact beq_self_eq_true _ | rfl) ?_; conv => whnf) | (refine Br.no (by first | with_reducible rfl | with_reducible exact bne_self_eq_false _ | rfl) ?_; conv => whnf))
  refine Sm.ofW ?_
  conv => whnf
  repeat (first | (refine Br.yes (by first | with_reducible rfl | with_reducible exact beq_self_eq_true _ | rfl) ?_; conv => whnf) | (refine Br.no (by first | with_reducible rfl | with_reducible exact bne_self_eq_false _ | rfl) ?_; conv => whnf))
  refine hp.call (sum_spec wf hv hr hn 0) ?_
  clear hp
  rintro _ s rfl hp _
  generalize hO : (⟨0, mkD (sumP rows).1 (sumP rows).2, joinL rows⟩ : Ov) = o at hp ⊢
  conv => whnf
  refine hp.alloc (cs := Ov.zero.cells) (e := 7) rfl rfl rfl rfl rfl ?_
  clear hp
  intro p6 s hp _
  conv => whnf
  refine hp.storeW (vs := o.cells) (C := Ov.zero.cells) rfl (by repeat (first | exact Rm.here | apply Rm.there)) (by rfl) rfl rfl rfl ?_
  clear hp
  intro s hp _
  conv => whnf
  repeat (first | (refine Br.yes (by first | with_reducible rfl | with_reducible exact beq_self_eq_true _ | rfl) ?_; conv => whnf) | (refine Br.no (by first | with_reducible rfl | with_reducible exact bne_self_eq_false _ | rfl) ?_; conv => whnf))
  refine hp.loadA (l := o.cells) (by repeat (first | exact Has.here | apply Has.there | (apply Has.swap; repeat (first | exact HasR.here | apply HasR.there)))) rfl (by rfl) rfl rfl ?_
  conv => whnf
  refine hp.lit (cs := o.cells) (e := 7) rfl ?_
  clear hp
  intro b8 s hp _
  conv => whnf
  replace hp := hp.blkOnU (n := 1) .here rfl
  exact ⟨hp.fr, _, rfl, hp.out .here⟩
def outF (sum : Bool) (rows : List Rv) : List Ov := if sum = true then [⟨0, mkD (sumP rows).1 (sumP rows).2, joinL rows⟩] else rows.map fun r => ⟨r.ac, r.am, r.l⟩
theorem vrun_spec {z : St} (wf : WF z) {κ : Option Nat} {v : Value} {rows : List Rv} (hv : Sl z κ v 10 rows.length (rvCells rows)) (hr : ∀ r ∈ rows, r.ok) (hn : rows.length ≤ 100) {c : Lb} (hc : c.ok) (sum : Bool) :
    Cw Tryz.prog 25 [qVal sum, v, c.val] z fun r s' => K0 z s' ∧ ∃ w, r = .tuple #[w, .int .i64 0] ∧ OwnN z.next s' w 7 (outF sum (seesF rows c)).length (ovCells (outF sum (seesF rows c))) := by
  have hp : Hp (fun _ => False) z [slA κ v 10 rows.length (rvCells rows)] [] z := Hp.start _ wf _ (by simp; exact hv)
  obtain ⟨a, cp, rfl⟩ := hv.shape
  refine Cw.enterS Tryz.func25 rfl rfl ?_
  refine Sm.seqW ?_
  conv => whnf
  refine hp.var (cs := qCells sum) (e := 6) rfl rfl ?_
  clear hp
  intro p3 s hp _
  conv => whnf
  refine hp.var (cs := c.cells) (e := 2) rfl rfl ?_
  clear hp
  intro p5 s hp _
  conv => whnf
  refine Sm.live [1, 3, 5] ?_
  conv => whnf
  refine Sm.seqW ?_
  conv => whnf
  refine hp.loadA (l := c.cells) (by repeat (first | exact Has.here | apply Has.there | (apply Has.swap; repeat (first | exact HasR.here | apply HasR.there)))) rfl (by rfl) rfl rfl ?_
  conv => whnf
  refine hp.callO (sees_spec hp.wf (hp.slR .here) (fun r h => (hr r h).l.ok) hn hc) ?_
  clear hp
  intro v14 κ14 s hp _
  conv => whnf
  have hsr : ∀ r ∈ seesF rows c, r.ok := fun r h => hr r (List.mem_filter.1 h).1
  have hsn : (seesF rows c).length ≤ 100 := Nat.le_trans (List.length_filter_le _ _) hn
  generalize seesF rows c = sn at hp hsr hsn
  have hb3 := hp.blk (k := p3) (b := p3) (C := qCells sum) (e := 6) (by repeat (first | exact Has.here | apply Has.there | (apply Has.swap; repeat (first | exact HasR.here | apply HasR.there))))
  refine hp.call (deletef_spec hp.wf (hp.slF (κ := κ14) (v := v14) .here) hsn (g := 55) (us := #[]) (vs := #[.pointer (some ⟨p3, 0, none⟩)]) (fun hk r _ => run1_all hk.wf (hk.blk _ _ _ _ (fun h => h) hb3) r)) ?_
  clear hp hb3
  rintro r s h hp _
  obtain rfl := h.symm
  conv => whnf
  refine Sm.live [1, 3] ?_
  conv => whnf
  refine Sm.seqW ?_
  conv => whnf
  refine Sm.live [1, 3, 8] ?_
  conv => whnf
  obtain ⟨a14, c14, rfl⟩ := (hp.slF (κ := κ14) (v := v14) .here).shape
  refine Sm.seqC (fun e L' s' => e = .normal ∧ ∃ κo w, Hp (fun _ => False) z [slA κ (.slice a rows.length cp) 10 rows.length (rvCells rows)] [onA κo w 7 (outF sum sn).length (ovCells (outF sum sn)), blkA p3 p3 (qCells sum) 6] s' ∧ Sub [(3, .pointer (some ⟨p3, 0, none⟩)), (8, w)] L') ?_ ?_
  · conv => whnf
    (refine hp.load (by repeat (first | exact Has.here | apply Has.there | (apply Has.swap; repeat (first | exact HasR.here | apply HasR.there)))) (by rfl) rfl rfl rfl ?_; conv => whnf)
    cases sum with
    | true =>
      refine Br.yes rfl ?_
      conv => whnf
      (refine hp.load (by repeat (first | exact Has.here | apply Has.there | (apply Has.swap; repeat (first | exact HasR.here | apply HasR.there)))) (by rfl) rfl rfl rfl ?_; conv => whnf)
      have hO : outF true sn = [⟨0, mkD (sumP sn).1 (sumP sn).2, joinL sn⟩] := if_pos rfl
      refine (summed_spec hp.wf (hp.slF (κ := κ14) (v := .slice a14 sn.length c14) (by repeat (first | exact Rm.here | apply Rm.there))) hsr hsn).mono ?_
      rintro r s' ⟨k1, w, rfl, o⟩
      obtain ⟨κo, hp'⟩ := hp.on k1 o
      clear hp k1 o
      have hp := hp'
      clear hp'
      conv => whnf
      refine Br.no rfl ?_
      conv => whnf
      rw [hO]
      exact ⟨rfl, κo, w, hp.pik (by repeat (first | exact Pik.nil | exact Pik.refl _ | exact Rm.here | apply Rm.there | apply Pik.cons | apply Pik.skip)), subK_ok ⟨rfl, rfl, trivial⟩⟩
    | false =>
      refine Br.no rfl ?_
      conv => whnf
      have hO : outF false sn = sn.map fun r => ⟨r.ac, r.am, r.l⟩ := if_neg (by decide)
      refine Lp.ofS (α := Nat × Option Nat × Value) (fun x => [(3, .pointer (some ⟨p3, 0, none⟩)), (8, x.2.2), (29, .slice a14 sn.length c14), (30, .int .i64 (sn.length : Int)), (31, .int .i64 (x.1 : Int))])
        (fun x s' => x.1 ≤ sn.length ∧ Hp (fun _ => False) z [slA κ (.slice a rows.length cp) 10 rows.length (rvCells rows)] [onA x.2.1 x.2.2 7 x.1 (ovCells ((sn.take x.1).map fun r => ⟨r.ac, r.am, r.l⟩)), onA κ14 (.slice a14 sn.length c14) 10 sn.length (rvCells sn), blkA p3 p3 (qCells false) 6] s')
        (fun x => sn.length - x.1) ?_ (0, none, .slice none 0 0) (subK_ok (by refine ⟨rfl, rfl, rfl, rfl, rfl, trivial⟩)) ⟨Nat.zero_le _, (hp.push (a := onA none (.slice none 0 0) 7 0 []) (.refl hp.wf) ⟨.inl ⟨rfl, rfl, rfl, rfl⟩⟩ fun j hj => by cases hj).pik (by repeat (first | exact Pik.nil | exact Pik.refl _ | exact Rm.here | apply Rm.there | apply Pik.cons | apply Pik.skip))⟩
      clear hp
      rintro ⟨i, κo, vo⟩ s ⟨hi, hp⟩
      simp only at hi hp
      refine Sm.seqW ?_
      conv => whnf
      refine Sm.seq ?_
      refine Sm.ofW ?_
      conv => whnf
      refine Br.mk (fun hq => ?_) (fun hq => ?_)
      · have hi2 : i < sn.length := by have := of_decide_eq_true hq; omega
        have e6 : IntKind.i64.wrap ((i : Int) + 1) = ((i + 1 : Nat) : Int) := by rw [wi64 (by omega) (by omega)]; omega
        have hsnc : ((sn.take (i + 1)).map fun r => (⟨r.ac, r.am, r.l⟩ : Ov)) = ((sn.take i).map fun r => (⟨r.ac, r.am, r.l⟩ : Ov)) ++ [⟨sn[i].ac, sn[i].am, sn[i].l⟩] := by
          rw [List.take_succ_eq_append_getElem hi2, List.map_append]; rfl
        conv => whnf
        refine Sm.seq ?_
        refine Sm.block ?_
        refine Sm.seqW ?_
        conv => whnf
        obtain ⟨p, e1, e2⟩ := index_rv (hp.slF (κ := κ14) (v := .slice a14 sn.length c14) (by repeat (first | exact Rm.here | apply Rm.there))) .i64 hi2
        refine Om.of _ (e1) ?_
        conv => whnf
        refine Om.of _ (e2) ?_
        conv => whnf
        generalize sn[i] = r at hsnc
        clear e1 e2
        refine hp.alloc (cs := Rv.cells ⟨0, 0, 0, 0, ⟨false, 0, 0⟩, ⟨0, 0⟩⟩) (e := 10) rfl rfl rfl rfl rfl ?_
        clear hp
        intro p11 s hp _
        conv => whnf
        refine hp.storeW (vs := r.cells) (C := Rv.cells ⟨0, 0, 0, 0, ⟨false, 0, 0⟩, ⟨0, 0⟩⟩) rfl (by repeat (first | exact Rm.here | apply Rm.there)) (by rfl) rfl rfl rfl ?_
        clear hp
        intro s hp _
        conv => whnf
        refine Sm.live [3, 8, 11, 29, 30, 31] ?_
        conv => whnf
        refine Sm.ofW ?_
        conv => whnf
        (refine hp.load (by repeat (first | exact Has.here | apply Has.there | (apply Has.swap; repeat (first | exact HasR.here | apply HasR.there)))) (by rfl) rfl rfl rfl ?_; conv => whnf)
        refine hp.loadA (l := r.am.cells) (by repeat (first | exact Has.here | apply Has.there | (apply Has.swap; repeat (first | exact HasR.here | apply HasR.there)))) rfl (by rfl) rfl rfl ?_
        conv => whnf
        refine hp.loadA (l := r.l.cells) (by repeat (first | exact Has.here | apply Has.there | (apply Has.swap; repeat (first | exact HasR.here | apply HasR.there)))) rfl (by rfl) rfl rfl ?_
        conv => whnf
        refine hp.lit (cs := (Ov.mk r.ac r.am r.l).cells) (e := 7) rfl ?_
        clear hp
        intro b12 s hp _
        conv => whnf
        refine hp.app RO7 Tryz.underlying63 rfl (κ := κo) (v := vo) (by repeat (first | exact Rm.here | apply Rm.there)) (elems_sl (hp.blkSl (n := 1) (m := (by repeat (first | exact Has.here | apply Has.there | (apply Has.swap; repeat (first | exact HasR.here | apply HasR.there))) : Has (blkA b12 b12 (Ov.mk r.ac r.am r.l).cells 7) _ _)) rfl)) rfl rfl (by omega) ?_
        clear hp
        intro v13 κ13 s hp
        conv => whnf
        refine Sm.ofW ?_
        conv => whnf
        have hq2 : ovCells ((sn.take i).map fun r => ⟨r.ac, r.am, r.l⟩) ++ (Ov.mk r.ac r.am r.l).cells = ovCells ((sn.take (i + 1)).map fun r => ⟨r.ac, r.am, r.l⟩) := by rw [hsnc, ovCells_append]; simp [ovCells]
        rw [hq2] at hp
        exact ⟨(i + 1, κ13, v13), by (show sn.length - (i + 1) < sn.length - i); omega, subK_ok (by refine ⟨rfl, rfl, rfl, rfl, congrArg (fun x => some (Value.int .i64 x)) e6, trivial⟩), hi2, hp.pik (by repeat (first | exact Pik.nil | exact Pik.refl _ | exact Rm.here | apply Rm.there | apply Pik.cons | apply Pik.skip))⟩
      · have hi2 : i = sn.length := by have := of_decide_eq_false hq; omega
        subst hi2
        rw [List.take_of_length_le (Nat.le_refl _)] at hp
        conv => whnf
        rw [hO, List.length_map]
        exact ⟨rfl, κo, vo, hp.pik (by repeat (first | exact Pik.nil | exact Pik.refl _ | exact Rm.here | apply Rm.there | apply Pik.cons | apply Pik.skip)), subK_ok ⟨rfl, rfl, trivial⟩⟩
  clear hp
  rintro e L' s ⟨rfl, κo, w, hp, hsub⟩
  refine Sm.weak _ hsub ?_
  clear hsub
  refine Sm.seqC (fun e L' s' => e = .normal ∧ s' = s ∧ Sub [(3, .pointer (some ⟨p3, 0, none⟩)), (8, w)] L') ?_ ?_
  · conv => whnf
    (refine hp.load (by repeat (first | exact Has.here | apply Has.there | (apply Has.swap; repeat (first | exact HasR.here | apply HasR.there)))) (by rfl) rfl rfl rfl ?_; conv => whnf)
    refine Br.no rfl ?_
    conv => whnf
    exact ⟨rfl, rfl, subK_ok ⟨rfl, rfl, trivial⟩⟩
  rintro e L' s ⟨rfl, rfl, hsub⟩
  refine Sm.weak _ hsub ?_
  clear hsub
  refine Sm.seqC (fun e L' s' => e = .normal ∧ s' = s ∧ Sub [(8, w)] L') ?_ ?_
  · conv => whnf
    (refine hp.load (by repeat (first | exact Has.here | apply Has.there | (apply Has.swap; repeat (first | exact HasR.here | apply HasR.there)))) (by rfl) rfl rfl rfl ?_; conv => whnf)
    refine Br.no rfl ?_
    conv => whnf
    exact ⟨rfl, rfl, subK_ok ⟨rfl, trivial⟩⟩
  rintro e L' s ⟨rfl, rfl, hsub⟩
  refine Sm.weak _ hsub ?_
  clear hsub
  have hol : (outF sum sn).length ≤ 100 := by unfold outF; split <;> simp; omega
  refine Sm.seqW ?_
  conv => whnf
  refine (ovclone_spec hp.wf (hp.slF (κ := κo) (v := w) (by repeat (first | exact Rm.here | apply Rm.there))) (by omega)).mono ?_
  rintro w2 s2 ⟨k2, o2⟩
  have hfr := hp.fr.then0 k2
  have hmn : OwnN z.next s2 w2 7 (outF sum sn).length (ovCells (outF sum sn)) := o2.mono hp.fr.next
  conv => whnf
  refine (ovclip_spec o2).mono ?_
  rintro r s' ⟨h1, h2⟩
  subst h1 h2
  conv => whnf
  refine Sm.ofW ?_
  conv => whnf
  exact ⟨hfr, _, rfl, hmn⟩
end Go.Ev
end

/- Rows and answers that are alike. No condition. -/
noncomputable section
namespace Go.Ev
open Go.Proofs
variable [Lk]
set_option linter.unusedSectionVars false
set_option linter.unusedVariables false
set_option maxRecDepth 100000

def ovE (a b : Ov) : Bool := ((a.key == b.key) && (((a.v.neg == b.v.neg) && (((((a.v.c % w64 : Nat) : Int) == ((b.v.c % w64 : Nat) : Int)) && (((a.v.c / w64 : Nat) : Int) == ((b.v.c / w64 : Nat) : Int))) && (a.v.scale == b.v.scale))) && ((((a.l.set : Nat) : Int) == ((b.l.set : Nat) : Int)) && (a.l.lev == b.l.lev))))
theorem ov_e (a b : Ov) : evEq Tryz.prog 10000 68 a.val b.val = some (ovE a b) := by
  have key : ∀ q0 q1 q2 q3 q4 q5 q6 : Bool, (a.key == b.key) = q0 → (a.v.neg == b.v.neg) = q1 → (((a.v.c % w64 : Nat) : Int) == ((b.v.c % w64 : Nat) : Int)) = q2 → (((a.v.c / w64 : Nat) : Int) == ((b.v.c / w64 : Nat) : Int)) = q3 → (a.v.scale == b.v.scale) = q4 → (((a.l.set : Nat) : Int) == ((b.l.set : Nat) : Int)) = q5 → (a.l.lev == b.l.lev) = q6 → evEq Tryz.prog 10000 68 a.val b.val = some (q0 && ((q1 && ((q2 && q3) && q4)) && (q5 && q6))) := by
    intro q0 q1 q2 q3 q4 q5 q6 h0 h1 h2 h3 h4 h5 h6
    have hX : evEq Tryz.prog 10000 68 a.val b.val = (match (some (a.key == b.key) : Option Bool) with | some true => (match ((match (some (a.v.neg == b.v.neg) : Option Bool) with | some true => (match ((match (some (((a.v.c % w64 : Nat) : Int) == ((b.v.c % w64 : Nat) : Int)) : Option Bool) with | some true => (match (some (((a.v.c / w64 : Nat) : Int) == ((b.v.c / w64 : Nat) : Int)) : Option Bool) with | some true => some true | some false => some false | none => none) | some false => some false | none => none) : Option Bool) with | some true => (match (some (a.v.scale == b.v.scale) : Option Bool) with | some true => some true | some false => some false | none => none) | some false => some false | none => none) | some false => some false | none => none) : Option Bool) with | some true => (match ((match (some (((a.l.set : Nat) : Int) == ((b.l.set : Nat) : Int)) : Option Bool) with | some true => (match (some (a.l.lev == b.l.lev) : Option Bool) with | some true => some true | some false => some false | none => none) | some false => some false | none => none) : Option Bool) with | some true => some true | some false => some false | none => none) | some false => some false | none => none) | some false => some false | none => none) := by kernel_rfl
    rw [hX]
    rw [h0, h1, h2, h3, h4, h5, h6]
    cases q0
    · rfl
    cases q1
    · rfl
    cases q2
    · rfl
    cases q3
    · rfl
    cases q4
    · rfl
    cases q5
    · rfl
    cases q6
    · rfl
    rfl
  exact key _ _ _ _ _ _ _ rfl rfl rfl rfl rfl rfl rfl
theorem ov_eq (a b : Ov) (c : Bool) : evBin Tryz.prog .eql 68 c a.val b.val = some (.bool ((ovE a b))) := by
  have hg : Tryz.prog.eqGuardType Tryz.prog.depth 68 = false := by decide +kernel
  show (match !(Tryz.prog.eqGuardType Tryz.prog.depth 68) with | false => none | true => (match evEq Tryz.prog 10000 68 a.val b.val with | some b => some (Value.bool (b)) | none => none)) = _
  rw [hg, ov_e]; rfl
theorem ovE_self (a : Ov) : ovE a a = true := by unfold ovE; simp
end Go.Ev
end

/- Fields of answers in a slice; chapter 23's example. No condition. -/
noncomputable section
namespace Go.Ev
open Go.Proofs
variable [Lk]
set_option linter.unusedSectionVars false
set_option linter.unusedVariables false
set_option maxRecDepth 100000

theorem index_uF {P : Program} {t et sz by_ : Nat} {z : Value} (T : SlT P t et sz by_ z) {s : St} {κ : Option Nat} {v : Value} {n i : Nat} {cs : List Value} (h : Sl s κ v sz n cs) (k : IntKind) (hi : i < n) :
    ∃ b off, evIndexAddr P t v (.int k (i : Int)) = some (.pointer (some ⟨b, off, none⟩)) ∧ ∃ C, s.rd b = some C ∧ Go.Ev.sl C off sz = some ((cs.drop (i * sz)).take sz) := by
  obtain ⟨j, hi1, hi2, hi3, hi4⟩ := T.hi
  rcases h.ex with ⟨rfl, rfl, rfl, rfl⟩ | ⟨b, off, c, C, rfl, hc, hl, hs, hm⟩
  · omega
  · have hr : s.rd b = some C := by
      rcases hm with ⟨k, _, hm⟩ | ⟨_, hm⟩
      · exact hm.rd
      · exact hm.rd
    have hle : i * sz + sz ≤ n * sz := by
      have : (i + 1) * sz ≤ n * sz := Nat.mul_le_mul_right _ hi
      rw [Nat.add_mul, Nat.one_mul] at this; exact this
    refine ⟨b, off + i * sz, ?_, C, hr, u_sl_sub hs hle⟩
    show (match P.underlying t, Value.slice (some ⟨b, off, none⟩) n c, Value.int k (.ofNat i) with
        | some (.slice e), .slice (some a) n _, .int _ (.ofNat i) => match Nat.blt i n, P.info? e with
          | true, some j => some (Value.pointer (some ⟨a.block, a.off + i * j.size, none⟩))
          | _, _ => none
        | some (.array n e), .pointer (some a), .int _ (.ofNat i) => match Nat.blt i n, P.info? e with
          | true, some j => some (Value.pointer (some ⟨a.block, a.off + i * j.size, none⟩))
          | _, _ => none
        | _, _, _ => none) = _
    rw [T.hu]
    simp only [blt_of hi, hi1, hi2]
theorem index_ovF {s : St} {κ : Option Nat} {v : Value} {l : List Ov} (h : Sl s κ v 7 l.length (ovCells l)) (k : IntKind) {i : Nat} (hi : i < l.length) :
    ∃ b off, evIndexAddr Tryz.prog 63 v (.int k (i : Int)) = some (.pointer (some ⟨b, off, none⟩)) ∧ evLoad Tryz.prog 68 (.pointer (some ⟨b, off, none⟩)) s = some l[i].val
      ∧ evLoad Tryz.prog 35 (.pointer (some ⟨b, off + 1, none⟩)) s = some l[i].v.val ∧ evLoad Tryz.prog 57 (.pointer (some ⟨b, off + 5, none⟩)) s = some l[i].l.val := by
  obtain ⟨b, off, e1, C, e2, e3⟩ := index_uF RO7 h k hi
  rw [ov_at hi] at e3
  exact ⟨b, off, e1, u_load_agg Tryz.underlying68 rfl e2 e3, u_load_agg Tryz.underlying35 rfl e2 (u_sl_sub e3 (i := 1) (m := 4) (by decide)), u_load_agg Tryz.underlying57 rfl e2 (u_sl_sub e3 (i := 5) (m := 2) (by decide))⟩
def qZero : List Value := [.slice none 0 0, .int .i64 0, .int .i64 0, .bool false, .bool false, .int .i64 0]
def kRows : List Rv := [⟨0, 0, 0, 0, ofD 5 0, ⟨1, 0⟩⟩, ⟨0, 0, 0, 0, ofD 7 0, ⟨2, 0⟩⟩]
theorem kRows_ok : ∀ r ∈ kRows, r.ok := by
  intro r hr
  simp only [kRows, List.mem_cons, List.not_mem_nil, or_false] at hr
  rcases hr with rfl | rfl
  · exact ⟨⟨5, 0, by kernel_rfl, by decide, by decide, by decide, by decide⟩, ⟨by decide, by decide, by decide⟩, by decide, by decide⟩
  · exact ⟨⟨7, 0, by kernel_rfl, by decide, by decide, by decide, by decide⟩, ⟨by decide, by decide, by decide⟩, by decide, by decide⟩
theorem vknown_spec {z : St} (wf : WF z) : Cw Tryz.prog 23 [] z fun r s' => K0 z s' ∧ r = .bool true := by
  have hp : Hp (fun _ => False) z [] [] z := Hp.start _ wf _ (by simp)
  refine Cw.enterS Tryz.func23 rfl rfl ?_
  refine Sm.seqW ?_
  conv => whnf
  refine Sm.seqW ?_
  conv => whnf
  refine hp.alloc (cs := qZero) (e := 6) rfl rfl rfl rfl rfl ?_
  clear hp
  intro p1 s hp _
  conv => whnf
  refine hp.storeW (vs := qCells true) (C := qZero) rfl (by repeat (first | exact Rm.here | apply Rm.there)) (by rfl) rfl rfl rfl ?_
  clear hp
  intro s hp _
  conv => whnf
  refine Sm.live [1] ?_
  conv => whnf
  refine Sm.seqW ?_
  conv => whnf
  refine hp.alloc (cs := (Lb.mk 0 0).cells) (e := 2) rfl rfl rfl rfl rfl ?_
  clear hp
  intro p2 s hp _
  conv => whnf
  refine hp.storeW (vs := (Lb.mk 255 3).cells) (C := (Lb.mk 0 0).cells) rfl (by repeat (first | exact Rm.here | apply Rm.there)) (by rfl) rfl rfl rfl ?_
  clear hp
  intro s hp _
  conv => whnf
  refine Sm.live [1, 2] ?_
  conv => whnf
  refine Sm.seqW ?_
  conv => whnf
  refine hp.call (rof_spec hp.wf (n := 5) (by unfold inR; decide) 0) ?_
  clear hp
  rintro _ s rfl hp _
  conv => whnf
  refine hp.call (rof_spec hp.wf (n := 7) (by unfold inR; decide) 0) ?_
  clear hp
  rintro _ s rfl hp _
  conv => whnf
  refine hp.lit (cs := rvCells kRows) (e := 10) rfl ?_
  clear hp
  intro b3 s hp _
  conv => whnf
  refine Sm.live [1, 2, 3] ?_
  conv => whnf
  refine Sm.seqW ?_
  conv => whnf
  refine hp.loadA (l := qCells true) (by repeat (first | exact Has.here | apply Has.there | (apply Has.swap; repeat (first | exact HasR.here | apply HasR.there)))) rfl (by rfl) rfl rfl ?_
  conv => whnf
  refine hp.loadA (l := (Lb.mk 255 3).cells) (by repeat (first | exact Has.here | apply Has.there | (apply Has.swap; repeat (first | exact HasR.here | apply HasR.there)))) rfl (by rfl) rfl rfl ?_
  conv => whnf
  refine (vrun_spec hp.wf (κ := none) (v := .slice none 0 0) (rows := []) ⟨.inl ⟨rfl, rfl, rfl, rfl⟩⟩ (fun r h => by cases h) (by decide) (c := ⟨255, 3⟩) ⟨by decide, by unfold inR; decide⟩ true).mono ?_
  rintro r s' ⟨k1, w4, rfl, o⟩
  have e1 : outF true (seesF [] ⟨255, 3⟩) = [Ov.zero] := by kernel_rfl
  rw [e1] at o
  obtain ⟨κ4, hp'⟩ := hp.on k1 o
  clear hp k1 o
  have hp := hp'
  clear hp'
  conv => whnf
  refine Sm.live [1, 3, 4, 5] ?_
  conv => whnf
  refine Sm.seqW ?_
  conv => whnf
  refine hp.loadA (l := qCells true) (by repeat (first | exact Has.here | apply Has.there | (apply Has.swap; repeat (first | exact HasR.here | apply HasR.there)))) rfl (by rfl) rfl rfl ?_
  conv => whnf
  refine (vrun_spec hp.wf (rows := kRows) (hp.blkSl (n := 2) (m := (by repeat (first | exact Has.here | apply Has.there | (apply Has.swap; repeat (first | exact HasR.here | apply HasR.there))) : Has (blkA b3 b3 (rvCells kRows) 10) _ _)) rfl) kRows_ok (by decide) (c := ⟨1, 0⟩) ⟨by decide, by unfold inR; decide⟩ true).mono ?_
  rintro r s' ⟨k1, w6, rfl, o⟩
  have e2 : outF true (seesF kRows ⟨1, 0⟩) = [⟨0, ofD 5 0, ⟨1, 0⟩⟩] := by kernel_rfl
  rw [e2] at o
  obtain ⟨κ6, hp'⟩ := hp.on k1 o
  clear hp k1 o
  have hp := hp'
  clear hp'
  obtain ⟨a4, c4, rfl⟩ := (hp.slF (κ := κ4) (v := w4) (by repeat (first | exact Rm.here | apply Rm.there))).shape
  obtain ⟨a6, c6, rfl⟩ := (hp.slF (κ := κ6) (v := w6) (by repeat (first | exact Rm.here | apply Rm.there))).shape
  conv => whnf
  refine Sm.live [4, 5, 6, 7] ?_
  conv => whnf
  refine Sm.seqW ?_
  conv => whnf
  refine ⟨[0, 1, 3, 7, 15, 31, 63, 127, 255, 511, 1023, 255, 4095, 8191, 16383, 32767, 65535, 131071, 262143, 524287, 1048575, 2097151, 4194303, 8388607, 16777215, 33554431, 67108863, 16777215, 16777215, 419430399, 1073741823, 2147483647, 4294967295], by decide +kernel, by decide +kernel, ?_⟩
  conv => whnf
  repeat (first | (refine Br.yes (by first | with_reducible rfl | with_reducible exact beq_self_eq_true _ | rfl) ?_; conv => whnf) | (refine Br.no (by first | with_reducible rfl | with_reducible exact bne_self_eq_false _ | rfl) ?_; conv => whnf))
  obtain ⟨b, off, f1, f2, -, -⟩ := index_ovF (hp.slF (κ := κ4) (v := .slice a4 1 c4) (by repeat (first | exact Rm.here | apply Rm.there))) .i64 (i := 0) (by decide)
  refine Om.of _ (f1) ?_
  conv => whnf
  repeat (first | (refine Br.yes (by first | with_reducible rfl | with_reducible exact beq_self_eq_true _ | rfl) ?_; conv => whnf) | (refine Br.no (by first | with_reducible rfl | with_reducible exact bne_self_eq_false _ | rfl) ?_; conv => whnf))
  refine Om.of _ (f2) ?_
  conv => whnf
  repeat (first | (refine Br.yes (by first | with_reducible rfl | with_reducible exact beq_self_eq_true _ | rfl) ?_; conv => whnf) | (refine Br.no (by first | with_reducible rfl | with_reducible exact bne_self_eq_false _ | rfl) ?_; conv => whnf))
  refine Om.of _ (ov_eq Ov.zero Ov.zero _) ?_
  conv => whnf
  rw [ovE_self]
  repeat (first | (refine Br.yes (by first | with_reducible rfl | with_reducible exact beq_self_eq_true _ | rfl) ?_; conv => whnf) | (refine Br.no (by first | with_reducible rfl | with_reducible exact bne_self_eq_false _ | rfl) ?_; conv => whnf))
  clear f1 f2
  obtain ⟨b, off, f1, f2, -, -⟩ := index_ovF (hp.slF (κ := κ6) (v := .slice a6 1 c6) (by repeat (first | exact Rm.here | apply Rm.there))) .i64 (i := 0) (by decide)
  refine Om.of _ (f1) ?_
  conv => whnf
  repeat (first | (refine Br.yes (by first | with_reducible rfl | with_reducible exact beq_self_eq_true _ | rfl) ?_; conv => whnf) | (refine Br.no (by first | with_reducible rfl | with_reducible exact bne_self_eq_false _ | rfl) ?_; conv => whnf))
  refine Om.of _ (f2) ?_
  conv => whnf
  repeat (first | (refine Br.yes (by first | with_reducible rfl | with_reducible exact beq_self_eq_true _ | rfl) ?_; conv => whnf) | (refine Br.no (by first | with_reducible rfl | with_reducible exact bne_self_eq_false _ | rfl) ?_; conv => whnf))
  refine hp.rst.call (rof_spec hp.rst.wf (n := 5) (by unfold inR; decide) 0) ?_
  rintro _ s1 rfl h1 k1
  conv => whnf
  refine hp.dkN h1 k1 ?_
  clear hp h1 k1
  intro s hp
  conv => whnf
  repeat (first | (refine Br.yes (by first | with_reducible rfl | with_reducible exact beq_self_eq_true _ | rfl) ?_; conv => whnf) | (refine Br.no (by first | with_reducible rfl | with_reducible exact bne_self_eq_false _ | rfl) ?_; conv => whnf))
  refine Om.of _ (ov_eq ⟨0, ofD 5 0, ⟨1, 0⟩⟩ ⟨0, ofD 5 0, ⟨1, 0⟩⟩ _) ?_
  conv => whnf
  rw [ovE_self]
  repeat (first | (refine Br.yes (by first | with_reducible rfl | with_reducible exact beq_self_eq_true _ | rfl) ?_; conv => whnf) | (refine Br.no (by first | with_reducible rfl | with_reducible exact bne_self_eq_false _ | rfl) ?_; conv => whnf))
  refine Sm.live [0] ?_
  conv => whnf
  refine Sm.ofW ?_
  conv => whnf
  exact ⟨hp.fr, rfl⟩
end Go.Ev
end

/- lex.letter, digit, part, run; the document's digit. No condition. -/
noncomputable section
namespace Go.Ev
open Go.Proofs
variable [Lk]
set_option linter.unusedSectionVars false
set_option linter.unusedVariables false
set_option maxRecDepth 100000

def isL (x : UInt8) : Bool := decide (97 ≤ x.toNat ∧ x.toNat ≤ 122)
def isP (x : UInt8) : Bool := isD x || decide (x = 46)
theorem xletter_spec (s : St) (c : UInt8) : Cw Tryz.prog 142 [.int .u8 ((c.toNat : Nat) : Int)] s fun r s' => s' = s ∧ r = .bool (isL c) := by
  refine Cw.enterS Tryz.func142 rfl rfl ?_
  refine Sm.seqW ?_
  conv => whnf
  refine Sm.live [0] ?_
  conv => whnf
  refine Sm.seqW ?_
  conv => whnf
  repeat' (first | (refine Br.yes (by first | with_reducible rfl | with_reducible assumption) ?_; conv => whnf) | (refine Br.no (by first | with_reducible rfl | with_reducible assumption) ?_; conv => whnf) | (refine Br.mk (fun hq => ?_) (fun hq => ?_) <;> conv => whnf))
  all_goals refine Sm.ofW ?_
  all_goals conv => whnf
  all_goals refine ⟨rfl, congrArg Value.bool ?_⟩
  all_goals unfold isL
  all_goals first | exact (decide_eq_false (by simp at *; omega)).symm | exact (decide_eq_true (by simp at *; omega)).symm | exact decide_eq_decide.2 (by simp at *; omega)
theorem xdigit_spec (s : St) (c : UInt8) : Cw Tryz.prog 144 [.int .u8 ((c.toNat : Nat) : Int)] s fun r s' => s' = s ∧ r = .bool (isD c) := by
  refine Cw.enterS Tryz.func144 rfl rfl ?_
  refine Sm.seqW ?_
  conv => whnf
  refine Sm.live [0] ?_
  conv => whnf
  refine Sm.seqW ?_
  conv => whnf
  repeat' (first | (refine Br.yes (by first | with_reducible rfl | with_reducible assumption) ?_; conv => whnf) | (refine Br.no (by first | with_reducible rfl | with_reducible assumption) ?_; conv => whnf) | (refine Br.mk (fun hq => ?_) (fun hq => ?_) <;> conv => whnf))
  all_goals refine Sm.ofW ?_
  all_goals conv => whnf
  all_goals refine ⟨rfl, congrArg Value.bool ?_⟩
  all_goals unfold isD
  all_goals first | exact (decide_eq_false (by simp at *; omega)).symm | exact (decide_eq_true (by simp at *; omega)).symm | exact decide_eq_decide.2 (by simp at *; omega)
theorem u8_beq (x y : UInt8) : (((x.toNat : Nat) : Int) == ((y.toNat : Nat) : Int)) = decide (x = y) := by
  rw [Bool.eq_iff_iff, beq_iff_eq, decide_eq_true_iff]
  exact ⟨fun h => UInt8.toNat_inj.1 (by omega), fun h => by rw [h]⟩
theorem xpart_spec (s : St) (c : UInt8) : Cw Tryz.prog 145 [.int .u8 ((c.toNat : Nat) : Int)] s fun r s' => s' = s ∧ r = .bool (isP c) := by
  refine Cw.enterS Tryz.func145 rfl rfl ?_
  refine Sm.seqW ?_
  conv => whnf
  refine Sm.live [0] ?_
  conv => whnf
  refine Sm.seqW ?_
  conv => whnf
  refine (xdigit_spec _ c).mono ?_
  rintro _ s1 ⟨h1, rfl⟩
  obtain rfl := h1.symm
  conv => whnf
  unfold isP
  cases hd : isD c with
  | true =>
    repeat (first | (refine Br.yes (by first | with_reducible rfl | with_reducible exact beq_self_eq_true _ | rfl) ?_; conv => whnf) | (refine Br.no (by first | with_reducible rfl | with_reducible exact bne_self_eq_false _ | rfl) ?_; conv => whnf))
    refine Sm.ofW ?_
    conv => whnf
    exact ⟨rfl, rfl⟩
  | false =>
    repeat (first | (refine Br.yes (by first | with_reducible rfl | with_reducible exact beq_self_eq_true _ | rfl) ?_; conv => whnf) | (refine Br.no (by first | with_reducible rfl | with_reducible exact bne_self_eq_false _ | rfl) ?_; conv => whnf))
    refine Sm.ofW ?_
    conv => whnf
    exact ⟨rfl, congrArg Value.bool (u8_beq c 46)⟩
theorem xrun_spec (s : St) (l : List UInt8) (hl : l.length < 4611686018427387904) (at_ : Nat) (ha : at_ ≤ l.length) (g : Nat) (p : UInt8 → Bool)
    (hg : ∀ (s : St) (c : UInt8), Cw Tryz.prog g [.int .u8 ((c.toNat : Nat) : Int)] s fun r s' => s' = s ∧ r = .bool (p c)) :
    Cw Tryz.prog 143 [sv l, .int .i64 (at_ : Int), .func (.func g) #[] #[]] s fun r s' => s' = s ∧ r = .int .i64 ((at_ + ((l.drop at_).takeWhile p).length : Nat) : Int) := by
  refine Cw.enterS Tryz.func143 rfl rfl ?_
  refine Sm.seqW ?_
  conv => whnf
  refine Sm.live [0, 1, 2] ?_
  conv => whnf
  refine Sm.seq ?_
  refine Sm.block ?_
  refine Sm.loop ?_
  refine Lp.ofS (α := Nat) (fun i => [(0, sv l), (1, .int .i64 (i : Int)), (2, .func (.func g) #[] #[])])
    (fun i s' => i ≤ l.length ∧ s' = s ∧ i + ((l.drop i).takeWhile p).length = at_ + ((l.drop at_).takeWhile p).length) (fun i => l.length - i) ?_ at_ (subK_ok (by refine ⟨rfl, rfl, rfl, trivial⟩)) ⟨ha, rfl, rfl⟩
  rintro i s2 ⟨hi, rfl, hr⟩
  refine Sm.seq ?_
  refine Sm.seqW ?_
  conv => whnf
  by_cases hc : i < l.length
  · have q : decide ((i : Int) < (((bs ⟨l.toArray⟩).length : Nat) : Int)) = true := decide_eq_true (by show (i : Int) < (l.length : Int); omega)
    repeat (first | (refine Br.yes q ?_; conv => whnf) | (first | (refine Br.yes (by first | with_reducible rfl | with_reducible exact beq_self_eq_true _ | rfl) ?_; conv => whnf) | (refine Br.no (by first | with_reducible rfl | with_reducible exact bne_self_eq_false _ | rfl) ?_; conv => whnf)))
    refine Om.of _ (str_index Tryz.underlying9 (l := l) (i := i) hc .i64) ?_
    conv => whnf
    repeat (first | (refine Br.yes q ?_; conv => whnf) | (first | (refine Br.yes (by first | with_reducible rfl | with_reducible exact beq_self_eq_true _ | rfl) ?_; conv => whnf) | (refine Br.no (by first | with_reducible rfl | with_reducible exact bne_self_eq_false _ | rfl) ?_; conv => whnf)))
    refine (hg _ l[i]).mono ?_
    rintro _ s1 ⟨h1, rfl⟩
    obtain rfl := h1.symm
    conv => whnf
    repeat (first | (refine Br.yes q ?_; conv => whnf) | (first | (refine Br.yes (by first | with_reducible rfl | with_reducible exact beq_self_eq_true _ | rfl) ?_; conv => whnf) | (refine Br.no (by first | with_reducible rfl | with_reducible exact bne_self_eq_false _ | rfl) ?_; conv => whnf)))
    rw [List.drop_eq_getElem_cons hc] at hr
    cases hp : p l[i] with
    | true =>
      rw [List.takeWhile_cons_of_pos hp, List.length_cons] at hr
      refine Sm.live [0, 1, 2, 17] ?_
      conv => whnf
      refine Sm.ofW ?_
      conv => whnf
      repeat (first | (refine Br.yes (by first | with_reducible rfl | with_reducible exact beq_self_eq_true _ | rfl) ?_; conv => whnf) | (refine Br.no (by first | with_reducible rfl | with_reducible exact bne_self_eq_false _ | rfl) ?_; conv => whnf))
      refine Sm.block ?_
      refine Sm.ofW ?_
      conv => whnf
      exact ⟨i + 1, by (show l.length - (i + 1) < l.length - i); omega, subK_ok (by refine ⟨rfl, congrArg (fun x => some (Value.int .i64 x)) (show IntKind.i64.wrap ((i : Int) + 1) = ((i + 1 : Nat) : Int) by rw [wi64 (by omega) (by omega)]; omega), rfl, trivial⟩), by omega, rfl, by omega⟩
    | false =>
      rw [List.takeWhile_cons_of_neg (by rw [hp]; decide), List.length_nil] at hr
      refine Sm.live [0, 1, 2, 17] ?_
      conv => whnf
      refine Sm.ofW ?_
      conv => whnf
      repeat (first | (refine Br.yes (by first | with_reducible rfl | with_reducible exact beq_self_eq_true _ | rfl) ?_; conv => whnf) | (refine Br.no (by first | with_reducible rfl | with_reducible exact bne_self_eq_false _ | rfl) ?_; conv => whnf))
      refine Sm.seqW ?_
      conv => whnf
      refine Sm.ofW ?_
      conv => whnf
      exact ⟨rfl, congrArg (fun x => Value.int .i64 ((x : Nat) : Int)) (by omega)⟩
  · have q : decide ((i : Int) < (((bs ⟨l.toArray⟩).length : Nat) : Int)) = false := decide_eq_false (by show ¬ (i : Int) < (l.length : Int); omega)
    repeat (first | (refine Br.no q ?_; conv => whnf) | (first | (refine Br.yes (by first | with_reducible rfl | with_reducible exact beq_self_eq_true _ | rfl) ?_; conv => whnf) | (refine Br.no (by first | with_reducible rfl | with_reducible exact bne_self_eq_false _ | rfl) ?_; conv => whnf)))
    rw [List.drop_eq_nil_of_le (by omega), List.takeWhile_nil, List.length_nil] at hr
    refine Sm.live [0, 1, 2, 17] ?_
    conv => whnf
    refine Sm.ofW ?_
    conv => whnf
    repeat (first | (refine Br.yes (by first | with_reducible rfl | with_reducible exact beq_self_eq_true _ | rfl) ?_; conv => whnf) | (refine Br.no (by first | with_reducible rfl | with_reducible exact bne_self_eq_false _ | rfl) ?_; conv => whnf))
    refine Sm.seqW ?_
    conv => whnf
    refine Sm.ofW ?_
    conv => whnf
    exact ⟨rfl, congrArg (fun x => Value.int .i64 ((x : Nat) : Int)) (by omega)⟩
end Go.Ev
end
