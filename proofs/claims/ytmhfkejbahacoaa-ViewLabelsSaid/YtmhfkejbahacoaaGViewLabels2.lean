/- Several texts in one: what the law's text leans on, one behind the other. No condition but those that each theorem names. -/
import Derived.Test.YtmhfkejbahacoaaGViewLabels1
import Derived.Test.YtmhfkejbahacoaaKViewLabelsS6
/- Four words: dec.plus, dec.less. No condition. -/
noncomputable section
namespace Go.Ev
open Go.Proofs
variable [Lk]
set_option linter.unusedSectionVars false
set_option linter.unusedVariables false
set_option maxRecDepth 100000

theorem compl_u64 {x : Nat} (h : x < w64) : IntKind.u64.wrap (((BitVec.ofInt IntKind.u64.bits (if IntKind.u64.signed = true then -1 else IntKind.u64.max) ^^^ BitVec.ofInt IntKind.u64.bits (x : Int)).toNat : Nat) : Int) = ((w64 - 1 - x : Nat) : Int) := by
  have e : IntKind.u64.bits = 64 := rfl
  have e2 : (if IntKind.u64.signed = true then -1 else IntKind.u64.max) = ((18446744073709551615 : Nat) : Int) := rfl
  rw [e, e2, bv_nat, bv_nat]
  have e3 : BitVec.ofNat 64 18446744073709551615 ^^^ BitVec.ofNat 64 x = ~~~ BitVec.ofNat 64 x := by
    rw [show BitVec.ofNat 64 18446744073709551615 = BitVec.allOnes 64 by decide, BitVec.allOnes_xor]
  rw [e3, wrap_u64, BitVec.toNat_not, BitVec.toNat_ofNat, Nat.mod_eq_of_lt (show x < 2 ^ 64 from h)]
  simp only [w64] at *
  omega
theorem w4_parts {h l : Nat} (hl : l < w128) : W4 (h * w128 + l) = A4 (l % w64) (l / w64) (h % w64) (h / w64) := by
  have e : (h * w128 + l) % w64 = l % w64 ∧ (h * w128 + l) / w64 % w64 = l / w64 ∧ (h * w128 + l) / w128 % w64 = h % w64 ∧ (h * w128 + l) / w192 = h / w64 := by
    simp only [w64, w128, w192] at *; omega
  unfold W4
  rw [e.1, e.2.1, e.2.2.1, e.2.2.2]
theorem words_of2 {x y : Nat} (hx : x < w64) (hy : y < w64) : A2 x y = W2 (x + w64 * y) := by
  have e : (x + w64 * y) % w64 = x ∧ (x + w64 * y) / w64 = y := by simp only [w64] at *; omega
  unfold W2
  rw [e.1, e.2]
theorem lSub_sub {z : St} (wf : WF z) {a b c : Nat} (ha : a < w128) (hb : b < w128) (h : b ≤ a) (hc : c = a - b) : Cw Try.prog 46 [W2 a, W2 b] z fun r s' => K0 z s' ∧ r = .tuple #[W2 c, .bool true] := by
  subst hc; exact lSub_ok wf ha hb h
theorem lAdd_add {z : St} (wf : WF z) {a b c : Nat} (ha : a < w128) (hb : b < w128) (hc : c = a + b) (h : c < w128) : Cw Try.prog 45 [W2 a, W2 b] z fun r s' => K0 z s' ∧ r = .tuple #[W2 c, .bool true] := by
  subst hc; exact lAdd_ok wf ha hb h
theorem lSub_no {z : St} (wf : WF z) {a b : Nat} (ha : a < w128) (hb : b < w128) (h : a < b) : Cw Try.prog 46 [W2 a, W2 b] z fun r s' => K0 z s' ∧ r = .tuple #[W2 0, .bool false] :=
  (lSub_spec wf ha hb).mono fun r s' ⟨h1, h2⟩ => ⟨h1, h2.trans (if_neg (by omega))⟩
theorem one_lt : 1 < w128 := by decide
theorem dplus_spec {z : St} (wf : WF z) {a b : Nat} (ha : a < w256 / 4) (hb : b < w256 / 4) :
    Cw Try.prog 28 [W4 a, W4 b] z fun r s' => K0 z s' ∧ r = W4 (a + b) := by
  have hp : Hp (fun _ => False) z [] [] z := Hp.start _ wf _ (by simp)
  have a1 : a < w256 := by simp only [w256] at *; omega
  have b1 : b < w256 := by simp only [w256] at *; omega
  obtain ⟨q, hq⟩ : ∃ q, q = a / w128 := ⟨_, rfl⟩
  obtain ⟨p, hP⟩ : ∃ p, p = a % w128 := ⟨_, rfl⟩
  obtain ⟨t, ht⟩ : ∃ q, q = b / w128 := ⟨_, rfl⟩
  obtain ⟨r, hr⟩ : ∃ p, p = b % w128 := ⟨_, rfl⟩
  have aq : q < w128 / 4 := by simp only [w128, w256] at *; omega
  have bq : t < w128 / 4 := by simp only [w128, w256] at *; omega
  have ar : p < w128 := hP ▸ Nat.mod_lt _ (by decide)
  have br : r < w128 := hr ▸ Nat.mod_lt _ (by decide)
  have hab : a + b = q * w128 + p + (t * w128 + r) := by simp only [w128] at *; omega
  have hfin : ∀ h l : Nat, l < w128 → h * w128 + l = a + b → A4 (l % w64) (l / w64) (h % w64) (h / w64) = W4 (a + b) := fun h l hl e => by rw [← e, w4_parts hl]
  refine Cw.enterS Try.func28 rfl rfl ?_
  refine Sm.seqW ?_
  conv => whnf
  refine hp.var (cs := C4 (a % w64) (a / w64 % w64) (a / w128 % w64) (a / w192)) (e := 1) rfl rfl ?_
  clear hp
  intro p2 s hp _
  conv => whnf
  refine hp.var (cs := C4 (b % w64) (b / w64 % w64) (b / w128 % w64) (b / w192)) (e := 1) rfl rfl ?_
  clear hp
  intro p3 s hp _
  conv => whnf
  refine hp.alloc (cs := C4 0 0 0 0) (e := 1) rfl rfl rfl rfl rfl ?_
  clear hp
  intro p4 s hp _
  conv => whnf
  refine Sm.live [2, 3, 4] ?_
  conv => whnf
  refine Sm.seqW ?_
  conv => whnf
  refine hp.loadA (l := C4 (a % w64) (a / w64 % w64) (a / w128 % w64) (a / w192)) (by repeat (first | exact Has.here | apply Has.there | (apply Has.swap; repeat (first | exact HasR.here | apply HasR.there)))) rfl (by rfl) rfl rfl ?_
  conv => whnf
  refine hp.call (dhalves_spec hp.wf a1) ?_
  clear hp
  rintro _ s rfl hp _
  conv => whnf
  rw [← hq, ← hP]
  refine hp.alloc (cs := C2 0 0) (e := 1) rfl rfl rfl rfl rfl ?_
  clear hp
  intro p5 s hp _
  conv => whnf
  refine hp.alloc (cs := C2 0 0) (e := 1) rfl rfl rfl rfl rfl ?_
  clear hp
  intro p6 s hp _
  conv => whnf
  refine hp.storeW (vs := C2 (p % w64) (p / w64)) rfl (by repeat (first | exact Rm.here | apply Rm.there)) (by first | exact C2_same _ _ _ _ | exact C4_same _ _ _ _ _ _ _ _ | exact Dc_same _ _ | rfl) rfl rfl rfl ?_
  clear hp
  intro s hp _
  conv => whnf
  refine hp.storeW (vs := C2 (q % w64) (q / w64)) rfl (by repeat (first | exact Rm.here | apply Rm.there)) (by first | exact C2_same _ _ _ _ | exact C4_same _ _ _ _ _ _ _ _ | exact Dc_same _ _ | rfl) rfl rfl rfl ?_
  clear hp
  intro s hp _
  conv => whnf
  refine Sm.live [3, 4, 5, 6] ?_
  conv => whnf
  refine Sm.seqW ?_
  conv => whnf
  refine hp.loadA (l := C4 (b % w64) (b / w64 % w64) (b / w128 % w64) (b / w192)) (by repeat (first | exact Has.here | apply Has.there | (apply Has.swap; repeat (first | exact HasR.here | apply HasR.there)))) rfl (by rfl) rfl rfl ?_
  conv => whnf
  refine hp.call (dhalves_spec hp.wf b1) ?_
  clear hp
  rintro _ s rfl hp _
  conv => whnf
  rw [← ht, ← hr]
  refine hp.alloc (cs := C2 0 0) (e := 1) rfl rfl rfl rfl rfl ?_
  clear hp
  intro p7 s hp _
  conv => whnf
  refine hp.alloc (cs := C2 0 0) (e := 1) rfl rfl rfl rfl rfl ?_
  clear hp
  intro p8 s hp _
  conv => whnf
  refine hp.storeW (vs := C2 (r % w64) (r / w64)) rfl (by repeat (first | exact Rm.here | apply Rm.there)) (by first | exact C2_same _ _ _ _ | exact C4_same _ _ _ _ _ _ _ _ | exact Dc_same _ _ | rfl) rfl rfl rfl ?_
  clear hp
  intro s hp _
  conv => whnf
  refine hp.storeW (vs := C2 (t % w64) (t / w64)) rfl (by repeat (first | exact Rm.here | apply Rm.there)) (by first | exact C2_same _ _ _ _ | exact C4_same _ _ _ _ _ _ _ _ | exact Dc_same _ _ | rfl) rfl rfl rfl ?_
  clear hp
  intro s hp _
  conv => whnf
  refine Sm.live [4, 5, 6, 7, 8] ?_
  conv => whnf
  refine Sm.seqW ?_
  conv => whnf
  refine hp.loadA (l := C2 (q % w64) (q / w64)) (by repeat (first | exact Has.here | apply Has.there | (apply Has.swap; repeat (first | exact HasR.here | apply HasR.there)))) rfl (by rfl) rfl rfl ?_
  conv => whnf
  refine hp.loadA (l := C2 (t % w64) (t / w64)) (by repeat (first | exact Has.here | apply Has.there | (apply Has.swap; repeat (first | exact HasR.here | apply HasR.there)))) rfl (by rfl) rfl rfl ?_
  conv => whnf
  refine hp.call (lAdd_add hp.wf (a := q) (b := t) (c := q + t) (by simp only [w128] at *; omega) (by simp only [w128] at *; omega) rfl (by simp only [w128] at *; omega)) ?_
  clear hp
  rintro _ s rfl hp _
  conv => whnf
  refine hp.alloc (cs := C2 0 0) (e := 1) rfl rfl rfl rfl rfl ?_
  clear hp
  intro p9 s hp _
  conv => whnf
  refine hp.storeW (vs := C2 ((q + t) % w64) ((q + t) / w64)) rfl (by repeat (first | exact Rm.here | apply Rm.there)) (by first | exact C2_same _ _ _ _ | exact C4_same _ _ _ _ _ _ _ _ | exact Dc_same _ _ | rfl) rfl rfl rfl ?_
  clear hp
  intro s hp _
  conv => whnf
  refine Sm.live [4, 5, 7, 9] ?_
  conv => whnf
  refine Sm.seqW ?_
  conv => whnf
  refine hp.loadA (l := C2 (p % w64) (p / w64)) (by repeat (first | exact Has.here | apply Has.there | (apply Has.swap; repeat (first | exact HasR.here | apply HasR.there)))) rfl (by rfl) rfl rfl ?_
  conv => whnf
  refine hp.loadA (l := C2 (r % w64) (r / w64)) (by repeat (first | exact Has.here | apply Has.there | (apply Has.swap; repeat (first | exact HasR.here | apply HasR.there)))) rfl (by rfl) rfl rfl ?_
  conv => whnf
  by_cases hlt : p + r < w128
  · refine hp.call (lAdd_add hp.wf (a := p) (b := r) (c := p + r) ar br rfl hlt) ?_
    clear hp
    rintro _ s rfl hp _
    conv => whnf
    refine hp.alloc (cs := C2 0 0) (e := 1) rfl rfl rfl rfl rfl ?_
    clear hp
    intro pb s hp _
    conv => whnf
    refine hp.storeW (vs := C2 ((p + r) % w64) ((p + r) / w64)) rfl (by repeat (first | exact Rm.here | apply Rm.there)) (by first | exact C2_same _ _ _ _ | exact C4_same _ _ _ _ _ _ _ _ | exact Dc_same _ _ | rfl) rfl rfl rfl ?_
    clear hp
    intro s hp _
    conv => whnf
    refine Sm.live [4, 5, 7, 9, 11, 12] ?_
    conv => whnf
    refine Sm.seq ?_
    refine Sm.seqW ?_
    conv => whnf
    refine Sm.ofW ?_
    conv => whnf
    repeat (first | (refine Br.yes (by first | with_reducible rfl | with_reducible exact beq_self_eq_true _ | rfl) ?_; conv => whnf) | (refine Br.no (by first | with_reducible rfl | with_reducible exact bne_self_eq_false _ | rfl) ?_; conv => whnf))
    refine Sm.seqW ?_
    conv => whnf
    refine Om.of _ (rfl) ?_
    conv => whnf
    refine hp.load (v := .int .u64 (((p + r) % w64 : Nat) : Int)) (by repeat (first | exact Has.here | apply Has.there | (apply Has.swap; repeat (first | exact HasR.here | apply HasR.there)))) (by rfl) rfl rfl rfl ?_
    conv => whnf
    refine Om.of _ (rfl) ?_
    conv => whnf
    refine hp.load (v := .int .u64 (((p + r) / w64 : Nat) : Int)) (by repeat (first | exact Has.here | apply Has.there | (apply Has.swap; repeat (first | exact HasR.here | apply HasR.there)))) (by rfl) rfl rfl rfl ?_
    conv => whnf
    refine Om.of _ (rfl) ?_
    conv => whnf
    refine hp.load (v := .int .u64 (((q + t) % w64 : Nat) : Int)) (by repeat (first | exact Has.here | apply Has.there | (apply Has.swap; repeat (first | exact HasR.here | apply HasR.there)))) (by rfl) rfl rfl rfl ?_
    conv => whnf
    refine Om.of _ (rfl) ?_
    conv => whnf
    refine hp.load (v := .int .u64 (((q + t) / w64 : Nat) : Int)) (by repeat (first | exact Has.here | apply Has.there | (apply Has.swap; repeat (first | exact HasR.here | apply HasR.there)))) (by rfl) rfl rfl rfl ?_
    conv => whnf
    refine hp.storeW (vs := C4 ((p + r) % w64) ((p + r) / w64) ((q + t) % w64) ((q + t) / w64)) rfl (by repeat (first | exact Rm.here | apply Rm.there)) (by first | exact C2_same _ _ _ _ | exact C4_same _ _ _ _ _ _ _ _ | exact Dc_same _ _ | rfl) rfl rfl rfl ?_
    clear hp
    intro s hp _
    conv => whnf
    refine Sm.ofW ?_
    conv => whnf
    refine hp.loadA (l := C4 ((p + r) % w64) ((p + r) / w64) ((q + t) % w64) ((q + t) / w64)) (by repeat (first | exact Has.here | apply Has.there | (apply Has.swap; repeat (first | exact HasR.here | apply HasR.there)))) rfl (by rfl) rfl rfl ?_
    conv => whnf
    exact ⟨hp.fr, hfin (q + t) (p + r) (by simp only [w128] at *; omega) (by simp only [w128] at *; omega)⟩
  · refine hp.call (lAdd_no hp.wf (a := p) (b := r) ar br hlt) ?_
    clear hp
    rintro _ s rfl hp _
    conv => whnf
    refine hp.alloc (cs := C2 0 0) (e := 1) rfl rfl rfl rfl rfl ?_
    clear hp
    intro pb s hp _
    conv => whnf
    refine hp.storeW (vs := C2 (0 % w64) (0 / w64)) rfl (by repeat (first | exact Rm.here | apply Rm.there)) (by first | exact C2_same _ _ _ _ | exact C4_same _ _ _ _ _ _ _ _ | exact Dc_same _ _ | rfl) rfl rfl rfl ?_
    clear hp
    intro s hp _
    conv => whnf
    refine Sm.live [4, 5, 7, 9, 11, 12] ?_
    conv => whnf
    refine Sm.seq ?_
    refine Sm.seqW ?_
    conv => whnf
    refine Sm.ofW ?_
    conv => whnf
    repeat (first | (refine Br.yes (by first | with_reducible rfl | with_reducible exact beq_self_eq_true _ | rfl) ?_; conv => whnf) | (refine Br.no (by first | with_reducible rfl | with_reducible exact bne_self_eq_false _ | rfl) ?_; conv => whnf))
    refine hp.loadA (l := C2 (r % w64) (r / w64)) (by repeat (first | exact Has.here | apply Has.there | (apply Has.swap; repeat (first | exact HasR.here | apply HasR.there)))) rfl (by rfl) rfl rfl ?_
    conv => whnf
    refine Om.of _ (rfl) ?_
    conv => whnf
    refine hp.load (v := .int .u64 ((p % w64 : Nat) : Int)) (by repeat (first | exact Has.here | apply Has.there | (apply Has.swap; repeat (first | exact HasR.here | apply HasR.there)))) (by rfl) rfl rfl rfl ?_
    conv => whnf
    refine Om.of _ (rfl) ?_
    conv => whnf
    refine hp.load (v := .int .u64 ((p / w64 : Nat) : Int)) (by repeat (first | exact Has.here | apply Has.there | (apply Has.swap; repeat (first | exact HasR.here | apply HasR.there)))) (by rfl) rfl rfl rfl ?_
    conv => whnf
    have c1 := compl_u64 (w2_lt ar).1
    have c2 := compl_u64 (w2_lt ar).2
    have hw : A2 (w64 - 1 - p % w64) (w64 - 1 - p / w64) = W2 (w128 - 1 - p) := by
      rw [words_of2 (by simp only [w64]; omega) (by simp only [w64]; omega)]
      congr 1
      have := w2_lt ar
      simp only [w64, w128] at *; omega
    have hcall := lSub_sub hp.wf (a := r) (b := w128 - 1 - p) (c := p + r - w128 + 1) br (by simp only [w128] at *; omega) (by simp only [w128] at *; omega) (by simp only [w128] at *; omega)
    rw [← hw] at hcall
    rw [c1, c2]
    refine hp.call (hcall) ?_
    clear hp
    rintro _ s rfl hp _
    conv => whnf
    refine hp.storeW (vs := C2 ((p + r - w128 + 1) % w64) ((p + r - w128 + 1) / w64)) rfl (by repeat (first | exact Rm.here | apply Rm.there)) (by first | exact C2_same _ _ _ _ | exact C4_same _ _ _ _ _ _ _ _ | exact Dc_same _ _ | rfl) rfl rfl rfl ?_
    clear hp
    intro s hp _
    conv => whnf
    refine ⟨[0, 0, 3, 7, 15, 15, 31], by decide +kernel, by decide +kernel, ?_⟩
    conv => whnf
    refine hp.loadA (l := C2 ((p + r - w128 + 1) % w64) ((p + r - w128 + 1) / w64)) (by repeat (first | exact Has.here | apply Has.there | (apply Has.swap; repeat (first | exact HasR.here | apply HasR.there)))) rfl (by rfl) rfl rfl ?_
    conv => whnf
    refine hp.rst.call (lOf_spec hp.rst.wf (a := 1) (by decide)) ?_
    rintro _ s1 rfl h1 k1
    conv => whnf
    refine hp.dkN h1 k1 ?_
    clear hp h1 k1
    intro s hp
    conv => whnf
    refine hp.rst.call (lSub_sub hp.rst.wf (a := p + r - w128 + 1) (b := 1) (c := p + r - w128) (by simp only [w128] at *; omega) one_lt (by omega) (by omega)) ?_
    rintro _ s1 rfl h1 k1
    conv => whnf
    refine hp.dkN h1 k1 ?_
    clear hp h1 k1
    intro s hp
    conv => whnf
    refine hp.rst.storeW (vs := C2 ((p + r - w128) % w64) ((p + r - w128) / w64)) rfl (by repeat (first | exact Rm.here | apply Rm.there)) (by first | exact C2_same _ _ _ _ | exact C4_same _ _ _ _ _ _ _ _ | exact Dc_same _ _ | rfl) rfl rfl rfl ?_
    intro s1 h1 l1
    conv => whnf
    refine hp.dkW h1 l1 ?_
    clear hp h1 l1
    intro s hp
    conv => whnf
    refine ⟨[0, 0, 3, 7, 15, 15, 31], by decide +kernel, by decide +kernel, ?_⟩
    conv => whnf
    refine hp.loadA (l := C2 ((q + t) % w64) ((q + t) / w64)) (by repeat (first | exact Has.here | apply Has.there | (apply Has.swap; repeat (first | exact HasR.here | apply HasR.there)))) rfl (by rfl) rfl rfl ?_
    conv => whnf
    refine hp.rst.call (lOf_spec hp.rst.wf (a := 1) (by decide)) ?_
    rintro _ s1 rfl h1 k1
    conv => whnf
    refine hp.dkN h1 k1 ?_
    clear hp h1 k1
    intro s hp
    conv => whnf
    refine hp.rst.call (lAdd_add hp.rst.wf (a := q + t) (b := 1) (c := q + t + 1) (by simp only [w128] at *; omega) one_lt rfl (by simp only [w128] at *; omega)) ?_
    rintro _ s1 rfl h1 k1
    conv => whnf
    refine hp.dkN h1 k1 ?_
    clear hp h1 k1
    intro s hp
    conv => whnf
    refine hp.rst.storeW (vs := C2 ((q + t + 1) % w64) ((q + t + 1) / w64)) rfl (by repeat (first | exact Rm.here | apply Rm.there)) (by first | exact C2_same _ _ _ _ | exact C4_same _ _ _ _ _ _ _ _ | exact Dc_same _ _ | rfl) rfl rfl rfl ?_
    intro s1 h1 l1
    conv => whnf
    refine hp.dkW h1 l1 ?_
    clear hp h1 l1
    intro s hp
    conv => whnf
    refine Sm.seqW ?_
    conv => whnf
    refine Om.of _ (rfl) ?_
    conv => whnf
    refine hp.load (v := .int .u64 (((p + r - w128) % w64 : Nat) : Int)) (by repeat (first | exact Has.here | apply Has.there | (apply Has.swap; repeat (first | exact HasR.here | apply HasR.there)))) (by rfl) rfl rfl rfl ?_
    conv => whnf
    refine Om.of _ (rfl) ?_
    conv => whnf
    refine hp.load (v := .int .u64 (((p + r - w128) / w64 : Nat) : Int)) (by repeat (first | exact Has.here | apply Has.there | (apply Has.swap; repeat (first | exact HasR.here | apply HasR.there)))) (by rfl) rfl rfl rfl ?_
    conv => whnf
    refine Om.of _ (rfl) ?_
    conv => whnf
    refine hp.load (v := .int .u64 (((q + t + 1) % w64 : Nat) : Int)) (by repeat (first | exact Has.here | apply Has.there | (apply Has.swap; repeat (first | exact HasR.here | apply HasR.there)))) (by rfl) rfl rfl rfl ?_
    conv => whnf
    refine Om.of _ (rfl) ?_
    conv => whnf
    refine hp.load (v := .int .u64 (((q + t + 1) / w64 : Nat) : Int)) (by repeat (first | exact Has.here | apply Has.there | (apply Has.swap; repeat (first | exact HasR.here | apply HasR.there)))) (by rfl) rfl rfl rfl ?_
    conv => whnf
    refine hp.storeW (vs := C4 ((p + r - w128) % w64) ((p + r - w128) / w64) ((q + t + 1) % w64) ((q + t + 1) / w64)) rfl (by repeat (first | exact Rm.here | apply Rm.there)) (by first | exact C2_same _ _ _ _ | exact C4_same _ _ _ _ _ _ _ _ | exact Dc_same _ _ | rfl) rfl rfl rfl ?_
    clear hp
    intro s hp _
    conv => whnf
    refine Sm.ofW ?_
    conv => whnf
    refine hp.loadA (l := C4 ((p + r - w128) % w64) ((p + r - w128) / w64) ((q + t + 1) % w64) ((q + t + 1) / w64)) (by repeat (first | exact Has.here | apply Has.there | (apply Has.swap; repeat (first | exact HasR.here | apply HasR.there)))) rfl (by rfl) rfl rfl ?_
    conv => whnf
    exact ⟨hp.fr, hfin (q + t + 1) (p + r - w128) (by simp only [w128] at *; omega) (by simp only [w128] at *; omega)⟩
theorem dless_spec {z : St} (wf : WF z) {a b : Nat} (ha : a < w256) (hb : b ≤ a) :
    Cw Try.prog 30 [W4 a, W4 b] z fun r s' => K0 z s' ∧ r = W4 (a - b) := by
  have hp : Hp (fun _ => False) z [] [] z := Hp.start _ wf _ (by simp)
  have b1 : b < w256 := by omega
  obtain ⟨q, hq⟩ : ∃ q, q = a / w128 := ⟨_, rfl⟩
  obtain ⟨p, hP⟩ : ∃ p, p = a % w128 := ⟨_, rfl⟩
  obtain ⟨t, ht⟩ : ∃ q, q = b / w128 := ⟨_, rfl⟩
  obtain ⟨r, hr⟩ : ∃ p, p = b % w128 := ⟨_, rfl⟩
  have aq : q < w128 := by simp only [w128, w256] at *; omega
  have bq : t ≤ q := by simp only [w128, w256] at *; omega
  have ar : p < w128 := hP ▸ Nat.mod_lt _ (by decide)
  have br : r < w128 := hr ▸ Nat.mod_lt _ (by decide)
  have hab : a = q * w128 + p ∧ b = t * w128 + r := by simp only [w128] at *; omega
  have hfin : ∀ h l : Nat, l < w128 → h * w128 + l = a - b → A4 (l % w64) (l / w64) (h % w64) (h / w64) = W4 (a - b) := fun h l hl e => by rw [← e, w4_parts hl]
  refine Cw.enterS Try.func30 rfl rfl ?_
  refine Sm.seqW ?_
  conv => whnf
  refine hp.var (cs := C4 (a % w64) (a / w64 % w64) (a / w128 % w64) (a / w192)) (e := 1) rfl rfl ?_
  clear hp
  intro p2 s hp _
  conv => whnf
  refine hp.var (cs := C4 (b % w64) (b / w64 % w64) (b / w128 % w64) (b / w192)) (e := 1) rfl rfl ?_
  clear hp
  intro p3 s hp _
  conv => whnf
  refine hp.alloc (cs := C4 0 0 0 0) (e := 1) rfl rfl rfl rfl rfl ?_
  clear hp
  intro p4 s hp _
  conv => whnf
  refine Sm.live [2, 3, 4] ?_
  conv => whnf
  refine Sm.seqW ?_
  conv => whnf
  refine hp.loadA (l := C4 (a % w64) (a / w64 % w64) (a / w128 % w64) (a / w192)) (by repeat (first | exact Has.here | apply Has.there | (apply Has.swap; repeat (first | exact HasR.here | apply HasR.there)))) rfl (by rfl) rfl rfl ?_
  conv => whnf
  refine hp.call (dhalves_spec hp.wf ha) ?_
  clear hp
  rintro _ s rfl hp _
  conv => whnf
  rw [← hq, ← hP]
  refine hp.alloc (cs := C2 0 0) (e := 1) rfl rfl rfl rfl rfl ?_
  clear hp
  intro p5 s hp _
  conv => whnf
  refine hp.alloc (cs := C2 0 0) (e := 1) rfl rfl rfl rfl rfl ?_
  clear hp
  intro p6 s hp _
  conv => whnf
  refine hp.storeW (vs := C2 (p % w64) (p / w64)) rfl (by repeat (first | exact Rm.here | apply Rm.there)) (by first | exact C2_same _ _ _ _ | exact C4_same _ _ _ _ _ _ _ _ | exact Dc_same _ _ | rfl) rfl rfl rfl ?_
  clear hp
  intro s hp _
  conv => whnf
  refine hp.storeW (vs := C2 (q % w64) (q / w64)) rfl (by repeat (first | exact Rm.here | apply Rm.there)) (by first | exact C2_same _ _ _ _ | exact C4_same _ _ _ _ _ _ _ _ | exact Dc_same _ _ | rfl) rfl rfl rfl ?_
  clear hp
  intro s hp _
  conv => whnf
  refine Sm.live [3, 4, 5, 6] ?_
  conv => whnf
  refine Sm.seqW ?_
  conv => whnf
  refine hp.loadA (l := C4 (b % w64) (b / w64 % w64) (b / w128 % w64) (b / w192)) (by repeat (first | exact Has.here | apply Has.there | (apply Has.swap; repeat (first | exact HasR.here | apply HasR.there)))) rfl (by rfl) rfl rfl ?_
  conv => whnf
  refine hp.call (dhalves_spec hp.wf b1) ?_
  clear hp
  rintro _ s rfl hp _
  conv => whnf
  rw [← ht, ← hr]
  refine hp.alloc (cs := C2 0 0) (e := 1) rfl rfl rfl rfl rfl ?_
  clear hp
  intro p7 s hp _
  conv => whnf
  refine hp.alloc (cs := C2 0 0) (e := 1) rfl rfl rfl rfl rfl ?_
  clear hp
  intro p8 s hp _
  conv => whnf
  refine hp.storeW (vs := C2 (r % w64) (r / w64)) rfl (by repeat (first | exact Rm.here | apply Rm.there)) (by first | exact C2_same _ _ _ _ | exact C4_same _ _ _ _ _ _ _ _ | exact Dc_same _ _ | rfl) rfl rfl rfl ?_
  clear hp
  intro s hp _
  conv => whnf
  refine hp.storeW (vs := C2 (t % w64) (t / w64)) rfl (by repeat (first | exact Rm.here | apply Rm.there)) (by first | exact C2_same _ _ _ _ | exact C4_same _ _ _ _ _ _ _ _ | exact Dc_same _ _ | rfl) rfl rfl rfl ?_
  clear hp
  intro s hp _
  conv => whnf
  refine Sm.live [4, 5, 6, 7, 8] ?_
  conv => whnf
  refine Sm.seqW ?_
  conv => whnf
  refine hp.loadA (l := C2 (q % w64) (q / w64)) (by repeat (first | exact Has.here | apply Has.there | (apply Has.swap; repeat (first | exact HasR.here | apply HasR.there)))) rfl (by rfl) rfl rfl ?_
  conv => whnf
  refine hp.loadA (l := C2 (t % w64) (t / w64)) (by repeat (first | exact Has.here | apply Has.there | (apply Has.swap; repeat (first | exact HasR.here | apply HasR.there)))) rfl (by rfl) rfl rfl ?_
  conv => whnf
  refine hp.call (lSub_sub hp.wf (a := q) (b := t) (c := q - t) aq (by omega) bq rfl) ?_
  clear hp
  rintro _ s rfl hp _
  conv => whnf
  refine hp.alloc (cs := C2 0 0) (e := 1) rfl rfl rfl rfl rfl ?_
  clear hp
  intro p9 s hp _
  conv => whnf
  refine hp.storeW (vs := C2 ((q - t) % w64) ((q - t) / w64)) rfl (by repeat (first | exact Rm.here | apply Rm.there)) (by first | exact C2_same _ _ _ _ | exact C4_same _ _ _ _ _ _ _ _ | exact Dc_same _ _ | rfl) rfl rfl rfl ?_
  clear hp
  intro s hp _
  conv => whnf
  refine Sm.live [4, 5, 7, 9] ?_
  conv => whnf
  refine Sm.seqW ?_
  conv => whnf
  refine hp.loadA (l := C2 (p % w64) (p / w64)) (by repeat (first | exact Has.here | apply Has.there | (apply Has.swap; repeat (first | exact HasR.here | apply HasR.there)))) rfl (by rfl) rfl rfl ?_
  conv => whnf
  refine hp.loadA (l := C2 (r % w64) (r / w64)) (by repeat (first | exact Has.here | apply Has.there | (apply Has.swap; repeat (first | exact HasR.here | apply HasR.there)))) rfl (by rfl) rfl rfl ?_
  conv => whnf
  by_cases hlt : r ≤ p
  · refine hp.call (lSub_sub hp.wf (a := p) (b := r) (c := p - r) ar br hlt rfl) ?_
    clear hp
    rintro _ s rfl hp _
    conv => whnf
    refine hp.alloc (cs := C2 0 0) (e := 1) rfl rfl rfl rfl rfl ?_
    clear hp
    intro pb s hp _
    conv => whnf
    refine hp.storeW (vs := C2 ((p - r) % w64) ((p - r) / w64)) rfl (by repeat (first | exact Rm.here | apply Rm.there)) (by first | exact C2_same _ _ _ _ | exact C4_same _ _ _ _ _ _ _ _ | exact Dc_same _ _ | rfl) rfl rfl rfl ?_
    clear hp
    intro s hp _
    conv => whnf
    refine Sm.live [4, 5, 7, 9, 11, 12] ?_
    conv => whnf
    refine Sm.seq ?_
    refine Sm.seqW ?_
    conv => whnf
    refine Sm.ofW ?_
    conv => whnf
    repeat (first | (refine Br.yes (by first | with_reducible rfl | with_reducible exact beq_self_eq_true _ | rfl) ?_; conv => whnf) | (refine Br.no (by first | with_reducible rfl | with_reducible exact bne_self_eq_false _ | rfl) ?_; conv => whnf))
    refine Sm.seqW ?_
    conv => whnf
    refine Om.of _ (rfl) ?_
    conv => whnf
    refine hp.load (v := .int .u64 (((p - r) % w64 : Nat) : Int)) (by repeat (first | exact Has.here | apply Has.there | (apply Has.swap; repeat (first | exact HasR.here | apply HasR.there)))) (by rfl) rfl rfl rfl ?_
    conv => whnf
    refine Om.of _ (rfl) ?_
    conv => whnf
    refine hp.load (v := .int .u64 (((p - r) / w64 : Nat) : Int)) (by repeat (first | exact Has.here | apply Has.there | (apply Has.swap; repeat (first | exact HasR.here | apply HasR.there)))) (by rfl) rfl rfl rfl ?_
    conv => whnf
    refine Om.of _ (rfl) ?_
    conv => whnf
    refine hp.load (v := .int .u64 (((q - t) % w64 : Nat) : Int)) (by repeat (first | exact Has.here | apply Has.there | (apply Has.swap; repeat (first | exact HasR.here | apply HasR.there)))) (by rfl) rfl rfl rfl ?_
    conv => whnf
    refine Om.of _ (rfl) ?_
    conv => whnf
    refine hp.load (v := .int .u64 (((q - t) / w64 : Nat) : Int)) (by repeat (first | exact Has.here | apply Has.there | (apply Has.swap; repeat (first | exact HasR.here | apply HasR.there)))) (by rfl) rfl rfl rfl ?_
    conv => whnf
    refine hp.storeW (vs := C4 ((p - r) % w64) ((p - r) / w64) ((q - t) % w64) ((q - t) / w64)) rfl (by repeat (first | exact Rm.here | apply Rm.there)) (by first | exact C2_same _ _ _ _ | exact C4_same _ _ _ _ _ _ _ _ | exact Dc_same _ _ | rfl) rfl rfl rfl ?_
    clear hp
    intro s hp _
    conv => whnf
    refine Sm.ofW ?_
    conv => whnf
    refine hp.loadA (l := C4 ((p - r) % w64) ((p - r) / w64) ((q - t) % w64) ((q - t) / w64)) (by repeat (first | exact Has.here | apply Has.there | (apply Has.swap; repeat (first | exact HasR.here | apply HasR.there)))) rfl (by rfl) rfl rfl ?_
    conv => whnf
    exact ⟨hp.fr, hfin (q - t) (p - r) (by simp only [w128] at *; omega) (by simp only [w128] at *; omega)⟩
  · have htq : t < q := by simp only [w128] at *; omega
    refine hp.call (lSub_no hp.wf (a := p) (b := r) ar br (by omega)) ?_
    clear hp
    rintro _ s rfl hp _
    conv => whnf
    refine hp.alloc (cs := C2 0 0) (e := 1) rfl rfl rfl rfl rfl ?_
    clear hp
    intro pb s hp _
    conv => whnf
    refine hp.storeW (vs := C2 (0 % w64) (0 / w64)) rfl (by repeat (first | exact Rm.here | apply Rm.there)) (by first | exact C2_same _ _ _ _ | exact C4_same _ _ _ _ _ _ _ _ | exact Dc_same _ _ | rfl) rfl rfl rfl ?_
    clear hp
    intro s hp _
    conv => whnf
    refine Sm.live [4, 5, 7, 9, 11, 12] ?_
    conv => whnf
    refine Sm.seq ?_
    refine Sm.seqW ?_
    conv => whnf
    refine Sm.ofW ?_
    conv => whnf
    repeat (first | (refine Br.yes (by first | with_reducible rfl | with_reducible exact beq_self_eq_true _ | rfl) ?_; conv => whnf) | (refine Br.no (by first | with_reducible rfl | with_reducible exact bne_self_eq_false _ | rfl) ?_; conv => whnf))
    refine hp.loadA (l := C2 (r % w64) (r / w64)) (by repeat (first | exact Has.here | apply Has.there | (apply Has.swap; repeat (first | exact HasR.here | apply HasR.there)))) rfl (by rfl) rfl rfl ?_
    conv => whnf
    refine hp.loadA (l := C2 (p % w64) (p / w64)) (by repeat (first | exact Has.here | apply Has.there | (apply Has.swap; repeat (first | exact HasR.here | apply HasR.there)))) rfl (by rfl) rfl rfl ?_
    conv => whnf
    refine hp.call (lSub_sub hp.wf (a := r) (b := p) (c := r - p) br ar (by omega) rfl) ?_
    clear hp
    rintro _ s rfl hp _
    conv => whnf
    refine hp.alloc (cs := C2 0 0) (e := 1) rfl rfl rfl rfl rfl ?_
    clear hp
    intro pd s hp _
    conv => whnf
    refine hp.storeW (vs := C2 ((r - p) % w64) ((r - p) / w64)) rfl (by repeat (first | exact Rm.here | apply Rm.there)) (by first | exact C2_same _ _ _ _ | exact C4_same _ _ _ _ _ _ _ _ | exact Dc_same _ _ | rfl) rfl rfl rfl ?_
    clear hp
    intro s hp _
    conv => whnf
    refine ⟨[0, 0, 3, 7, 15, 15, 31], by decide +kernel, by decide +kernel, ?_⟩
    conv => whnf
    refine hp.loadA (l := C2 ((r - p) % w64) ((r - p) / w64)) (by repeat (first | exact Has.here | apply Has.there | (apply Has.swap; repeat (first | exact HasR.here | apply HasR.there)))) rfl (by rfl) rfl rfl ?_
    conv => whnf
    refine hp.rst.call (lOf_spec hp.rst.wf (a := 1) (by decide)) ?_
    rintro _ s1 rfl h1 k1
    conv => whnf
    refine hp.dkN h1 k1 ?_
    clear hp h1 k1
    intro s hp
    conv => whnf
    obtain ⟨y, hy⟩ : ∃ y, y = r - p - 1 := ⟨_, rfl⟩
    have hyl : y < w128 := by omega
    refine hp.rst.call (lSub_sub hp.rst.wf (a := r - p) (b := 1) (c := y) (by omega) one_lt (by omega) hy) ?_
    rintro _ s1 rfl h1 k1
    conv => whnf
    refine hp.dkN h1 k1 ?_
    clear hp h1 k1
    intro s hp
    conv => whnf
    refine hp.rst.storeW (vs := C2 ((y) % w64) ((y) / w64)) rfl (by repeat (first | exact Rm.here | apply Rm.there)) (by first | exact C2_same _ _ _ _ | exact C4_same _ _ _ _ _ _ _ _ | exact Dc_same _ _ | rfl) rfl rfl rfl ?_
    intro s1 h1 l1
    conv => whnf
    refine hp.dkW h1 l1 ?_
    clear hp h1 l1
    intro s hp
    conv => whnf
    refine Om.of _ (rfl) ?_
    conv => whnf
    refine hp.load (v := .int .u64 ((y % w64 : Nat) : Int)) (by repeat (first | exact Has.here | apply Has.there | (apply Has.swap; repeat (first | exact HasR.here | apply HasR.there)))) (by rfl) rfl rfl rfl ?_
    conv => whnf
    refine Om.of _ (rfl) ?_
    conv => whnf
    refine hp.load (v := .int .u64 ((y / w64 : Nat) : Int)) (by repeat (first | exact Has.here | apply Has.there | (apply Has.swap; repeat (first | exact HasR.here | apply HasR.there)))) (by rfl) rfl rfl rfl ?_
    conv => whnf
    have c1 := compl_u64 (w2_lt hyl).1
    have c2 := compl_u64 (w2_lt hyl).2
    have hyd := Nat.div_add_mod y w64
    have hw : (w64 - 1 - y % w64) = (p + w128 - r) % w64 ∧ w64 - 1 - y / w64 = (p + w128 - r) / w64 := by
      have := w2_lt hyl
      simp only [w64, w128] at *; omega
    rw [c1, c2, hw.1, hw.2]
    refine hp.storeW (vs := C2 ((p + w128 - r) % w64) ((p + w128 - r) / w64)) rfl (by repeat (first | exact Rm.here | apply Rm.there)) (by first | exact C2_same _ _ _ _ | exact C4_same _ _ _ _ _ _ _ _ | exact Dc_same _ _ | rfl) rfl rfl rfl ?_
    clear hp
    intro s hp _
    conv => whnf
    refine ⟨[0, 0, 3, 7, 15, 15, 31], by decide +kernel, by decide +kernel, ?_⟩
    conv => whnf
    refine hp.loadA (l := C2 ((q - t) % w64) ((q - t) / w64)) (by repeat (first | exact Has.here | apply Has.there | (apply Has.swap; repeat (first | exact HasR.here | apply HasR.there)))) rfl (by rfl) rfl rfl ?_
    conv => whnf
    refine hp.rst.call (lOf_spec hp.rst.wf (a := 1) (by decide)) ?_
    rintro _ s1 rfl h1 k1
    conv => whnf
    refine hp.dkN h1 k1 ?_
    clear hp h1 k1
    intro s hp
    conv => whnf
    refine hp.rst.call (lSub_sub hp.rst.wf (a := q - t) (b := 1) (c := q - t - 1) (by omega) one_lt (by omega) rfl) ?_
    rintro _ s1 rfl h1 k1
    conv => whnf
    refine hp.dkN h1 k1 ?_
    clear hp h1 k1
    intro s hp
    conv => whnf
    refine hp.rst.storeW (vs := C2 ((q - t - 1) % w64) ((q - t - 1) / w64)) rfl (by repeat (first | exact Rm.here | apply Rm.there)) (by first | exact C2_same _ _ _ _ | exact C4_same _ _ _ _ _ _ _ _ | exact Dc_same _ _ | rfl) rfl rfl rfl ?_
    intro s1 h1 l1
    conv => whnf
    refine hp.dkW h1 l1 ?_
    clear hp h1 l1
    intro s hp
    conv => whnf
    refine Sm.seqW ?_
    conv => whnf
    refine Om.of _ (rfl) ?_
    conv => whnf
    refine hp.load (v := .int .u64 (((p + w128 - r) % w64 : Nat) : Int)) (by repeat (first | exact Has.here | apply Has.there | (apply Has.swap; repeat (first | exact HasR.here | apply HasR.there)))) (by rfl) rfl rfl rfl ?_
    conv => whnf
    refine Om.of _ (rfl) ?_
    conv => whnf
    refine hp.load (v := .int .u64 (((p + w128 - r) / w64 : Nat) : Int)) (by repeat (first | exact Has.here | apply Has.there | (apply Has.swap; repeat (first | exact HasR.here | apply HasR.there)))) (by rfl) rfl rfl rfl ?_
    conv => whnf
    refine Om.of _ (rfl) ?_
    conv => whnf
    refine hp.load (v := .int .u64 (((q - t - 1) % w64 : Nat) : Int)) (by repeat (first | exact Has.here | apply Has.there | (apply Has.swap; repeat (first | exact HasR.here | apply HasR.there)))) (by rfl) rfl rfl rfl ?_
    conv => whnf
    refine Om.of _ (rfl) ?_
    conv => whnf
    refine hp.load (v := .int .u64 (((q - t - 1) / w64 : Nat) : Int)) (by repeat (first | exact Has.here | apply Has.there | (apply Has.swap; repeat (first | exact HasR.here | apply HasR.there)))) (by rfl) rfl rfl rfl ?_
    conv => whnf
    refine hp.storeW (vs := C4 ((p + w128 - r) % w64) ((p + w128 - r) / w64) ((q - t - 1) % w64) ((q - t - 1) / w64)) rfl (by repeat (first | exact Rm.here | apply Rm.there)) (by first | exact C2_same _ _ _ _ | exact C4_same _ _ _ _ _ _ _ _ | exact Dc_same _ _ | rfl) rfl rfl rfl ?_
    clear hp
    intro s hp _
    conv => whnf
    refine Sm.ofW ?_
    conv => whnf
    refine hp.loadA (l := C4 ((p + w128 - r) % w64) ((p + w128 - r) / w64) ((q - t - 1) % w64) ((q - t - 1) / w64)) (by repeat (first | exact Has.here | apply Has.there | (apply Has.swap; repeat (first | exact HasR.here | apply HasR.there)))) rfl (by rfl) rfl rfl ?_
    conv => whnf
    exact ⟨hp.fr, hfin (q - t - 1) (p + w128 - r) (by simp only [w128] at *; omega) (by simp only [w128] at *; omega)⟩
end Go.Ev
end

/- Sums, products and the order of decimals, without a program. No condition. -/
noncomputable section
namespace Go.Ev
open Go.Proofs
variable [Lk]
set_option linter.unusedSectionVars false
set_option linter.unusedVariables false

/-- A decimal's digits with its sign, at a scale. -/
def up (d : Dc) (S : Int) : Int := if d.neg = true then -((d.c * 10 ^ (S - d.scale).toNat : Nat) : Int) else ((d.c * 10 ^ (S - d.scale).toNat : Nat) : Int)
def mkI (x : Int) (S : Int) : Value := dmade (decide (x < 0)) x.natAbs S
def addF (a b : Dc) : Value := if a.right = false ∨ b.right = false then errD 1 else mkI (up a (max a.scale b.scale) + up b (max a.scale b.scale)) (max a.scale b.scale)
theorem dmade_mk (neg : Bool) (n : Nat) (S : Int) : dmade neg n S = mkI (if neg = true then -(n : Int) else n) S := by
  unfold mkI
  cases neg with
  | false =>
    rw [if_neg (by decide), decide_eq_false (by omega)]; rfl
  | true =>
    rw [if_pos rfl]
    have e : (-(n : Int)).natAbs = n := by omega
    rw [e]
    unfold dmade
    by_cases h : n = 0
    · subst h; rfl
    · rw [decide_eq_true (show -(n : Int) < 0 by omega)]
theorem add_same {a b : Dc} {S : Int} (h : a.neg = b.neg) : dmade a.neg (a.c * 10 ^ (S - a.scale).toNat + b.c * 10 ^ (S - b.scale).toNat) S = mkI (up a S + up b S) S := by
  rw [dmade_mk]
  unfold up
  rw [← h]
  congr 1
  generalize a.c * 10 ^ (S - a.scale).toNat = x
  generalize b.c * 10 ^ (S - b.scale).toNat = y
  cases a.neg <;> simp <;> omega
theorem add_left {a b : Dc} {S : Int} (h : ¬ a.neg = b.neg) (hle : b.c * 10 ^ (S - b.scale).toNat ≤ a.c * 10 ^ (S - a.scale).toNat) : dmade a.neg (a.c * 10 ^ (S - a.scale).toNat - b.c * 10 ^ (S - b.scale).toNat) S = mkI (up a S + up b S) S := by
  rw [dmade_mk]
  unfold up
  congr 1
  generalize a.c * 10 ^ (S - a.scale).toNat = x at *
  generalize b.c * 10 ^ (S - b.scale).toNat = y at *
  cases ha : a.neg <;> cases hb : b.neg <;> rw [ha, hb] at h <;> first | exact absurd rfl h | (simp; omega)
theorem add_right {a b : Dc} {S : Int} (h : ¬ a.neg = b.neg) (hle : a.c * 10 ^ (S - a.scale).toNat ≤ b.c * 10 ^ (S - b.scale).toNat) : dmade b.neg (b.c * 10 ^ (S - b.scale).toNat - a.c * 10 ^ (S - a.scale).toNat) S = mkI (up a S + up b S) S := by
  rw [Int.add_comm]
  exact add_left (fun e => h e.symm) hle
theorem wide_small {d : Dc} {S : Int} (h : d.c < 10 ^ 30) (hs : S - d.scale ≤ 9) : d.c * 10 ^ (S - d.scale).toNat < w256 / 4 := by
  have h1 := pow_le10 (show (S - d.scale).toNat ≤ 9 by omega)
  have h2 := Nat.mul_le_mul (Nat.le_of_lt h) h1
  have h3 : 10 ^ 30 * 10 ^ 9 < w256 / 4 := by decide
  omega
theorem addF_shape (a b : Dc) : ∃ (d : Dc) (e : Int), addF a b = .tuple #[d.val, .int .i64 e] := by
  unfold addF
  split
  · exact ⟨_, _, rfl⟩
  · exact dmade_shape _ _ _
end Go.Ev
end

/- dec.Cmp, Add, Sub, Mul walked. No condition. -/
noncomputable section
namespace Go.Ev
open Go.Proofs
variable [Lk]
set_option linter.unusedSectionVars false
set_option linter.unusedVariables false
set_option maxRecDepth 100000

theorem wide_at {z : St} (wf : WF z) {d : Dc} (hd : d.c < w128) (hr : d.right = true) {S : Int} (h1 : d.scale ≤ S) (h2 : S ≤ 9) :
    Cw Try.prog 26 [d.val, .int .i64 S] z fun r s' => K0 z s' ∧ r = W4 (d.c * 10 ^ (S - d.scale).toNat) := by
  obtain ⟨g1, g2, g3⟩ := Dc.right_c hr
  exact dwide_spec wf d hd (k := (S - d.scale).toNat) (by omega) (by omega) ⟨by omega, by omega⟩
theorem decAdd_spec {z : St} (wf : WF z) (a b : Dc) (ha : a.c < w128) (hb : b.c < w128) : Cw Try.prog 12 [a.val, b.val] z fun r s' => K0 z s' ∧ r = addF a b := by
  have hp : Hp (fun _ => False) z [] [] z := Hp.start _ wf _ (by simp)
  refine Cw.enterS Try.func12 rfl rfl ?_
  refine Sm.seqW ?_
  conv => whnf
  refine hp.var (cs := a.cells) (e := 4) rfl rfl ?_
  clear hp
  intro p2 s hp _
  conv => whnf
  refine hp.var (cs := b.cells) (e := 4) rfl rfl ?_
  clear hp
  intro p3 s hp _
  conv => whnf
  refine hp.alloc (cs := Dc.zero.cells) (e := 4) rfl rfl rfl rfl rfl ?_
  clear hp
  intro p4 s hp _
  conv => whnf
  refine Sm.live [2, 3, 4] ?_
  conv => whnf
  refine Sm.seq ?_
  refine Sm.seqW ?_
  conv => whnf
  refine hp.loadA (l := a.cells) (by repeat (first | exact Has.here | apply Has.there | (apply Has.swap; repeat (first | exact HasR.here | apply HasR.there)))) rfl (by rfl) rfl rfl ?_
  conv => whnf
  refine hp.call (right_spec hp.wf a ha) ?_
  clear hp
  rintro _ s rfl hp _
  conv => whnf
  cases hr : a.right with
  | false =>
    repeat (first | (refine Br.yes (by first | with_reducible rfl | with_reducible exact beq_self_eq_true _ | rfl) ?_; conv => whnf) | (refine Br.no (by first | with_reducible rfl | with_reducible exact bne_self_eq_false _ | rfl) ?_; conv => whnf))
    refine Sm.ofW ?_
    conv => whnf
    repeat (first | (refine Br.yes (by first | with_reducible rfl | with_reducible exact beq_self_eq_true _ | rfl) ?_; conv => whnf) | (refine Br.no (by first | with_reducible rfl | with_reducible exact bne_self_eq_false _ | rfl) ?_; conv => whnf))
    refine hp.storeW (vs := Dc.zero.cells) rfl (by repeat (first | exact Rm.here | apply Rm.there)) (by first | exact C2_same _ _ _ _ | exact C4_same _ _ _ _ _ _ _ _ | exact Dc_same _ _ | rfl) rfl rfl rfl ?_
    clear hp
    intro s hp _
    conv => whnf
    refine hp.loadA (l := Dc.zero.cells) (by repeat (first | exact Has.here | apply Has.there | (apply Has.swap; repeat (first | exact HasR.here | apply HasR.there)))) rfl (by rfl) rfl rfl ?_
    conv => whnf
    exact ⟨hp.fr, by unfold addF; rw [if_pos (.inl hr)]; rfl⟩
  | true =>
    repeat (first | (refine Br.yes (by first | with_reducible rfl | with_reducible exact beq_self_eq_true _ | rfl) ?_; conv => whnf) | (refine Br.no (by first | with_reducible rfl | with_reducible exact bne_self_eq_false _ | rfl) ?_; conv => whnf))
    refine hp.loadA (l := b.cells) (by repeat (first | exact Has.here | apply Has.there | (apply Has.swap; repeat (first | exact HasR.here | apply HasR.there)))) rfl (by rfl) rfl rfl ?_
    conv => whnf
    repeat (first | (refine Br.yes (by first | with_reducible rfl | with_reducible exact beq_self_eq_true _ | rfl) ?_; conv => whnf) | (refine Br.no (by first | with_reducible rfl | with_reducible exact bne_self_eq_false _ | rfl) ?_; conv => whnf))
    refine hp.call (right_spec hp.wf b hb) ?_
    clear hp
    rintro _ s rfl hp _
    conv => whnf
    cases hrb : b.right with
    | false =>
      repeat (first | (refine Br.yes (by first | with_reducible rfl | with_reducible exact beq_self_eq_true _ | rfl) ?_; conv => whnf) | (refine Br.no (by first | with_reducible rfl | with_reducible exact bne_self_eq_false _ | rfl) ?_; conv => whnf))
      refine Sm.ofW ?_
      conv => whnf
      repeat (first | (refine Br.yes (by first | with_reducible rfl | with_reducible exact beq_self_eq_true _ | rfl) ?_; conv => whnf) | (refine Br.no (by first | with_reducible rfl | with_reducible exact bne_self_eq_false _ | rfl) ?_; conv => whnf))
      refine hp.storeW (vs := Dc.zero.cells) rfl (by repeat (first | exact Rm.here | apply Rm.there)) (by first | exact C2_same _ _ _ _ | exact C4_same _ _ _ _ _ _ _ _ | exact Dc_same _ _ | rfl) rfl rfl rfl ?_
      clear hp
      intro s hp _
      conv => whnf
      refine hp.loadA (l := Dc.zero.cells) (by repeat (first | exact Has.here | apply Has.there | (apply Has.swap; repeat (first | exact HasR.here | apply HasR.there)))) rfl (by rfl) rfl rfl ?_
      conv => whnf
      exact ⟨hp.fr, by unfold addF; rw [if_pos (.inr hrb)]; rfl⟩
    | true =>
      obtain ⟨a1, a2, a3⟩ := Dc.right_c hr
      obtain ⟨b1, b2, b3⟩ := Dc.right_c hrb
      repeat (first | (refine Br.yes (by first | with_reducible rfl | with_reducible exact beq_self_eq_true _ | rfl) ?_; conv => whnf) | (refine Br.no (by first | with_reducible rfl | with_reducible exact bne_self_eq_false _ | rfl) ?_; conv => whnf))
      refine Sm.ofW ?_
      conv => whnf
      repeat (first | (refine Br.yes (by first | with_reducible rfl | with_reducible exact beq_self_eq_true _ | rfl) ?_; conv => whnf) | (refine Br.no (by first | with_reducible rfl | with_reducible exact bne_self_eq_false _ | rfl) ?_; conv => whnf))
      refine Sm.seqW ?_
      conv => whnf
      refine hp.load (v := .int .i64 a.scale) (by repeat (first | exact Has.here | apply Has.there | (apply Has.swap; repeat (first | exact HasR.here | apply HasR.there)))) (by rfl) rfl rfl rfl ?_
      conv => whnf
      refine hp.load (v := .int .i64 b.scale) (by repeat (first | exact Has.here | apply Has.there | (apply Has.swap; repeat (first | exact HasR.here | apply HasR.there)))) (by rfl) rfl rfl rfl ?_
      conv => whnf
      have em2 : (if b.scale > a.scale then b.scale else a.scale) = max a.scale b.scale := by split <;> omega
      have hfin : addF a b = mkI (up a (max a.scale b.scale) + up b (max a.scale b.scale)) (max a.scale b.scale) := by unfold addF; rw [if_neg (by simp [hr, hrb])]
      rw [em2]
      generalize hS : max a.scale b.scale = S at *
      have wa := wide_small (S := S) a1 (by omega)
      have wb := wide_small (S := S) b1 (by omega)
      have hsame := add_same (a := a) (b := b) (S := S)
      have hleft := add_left (a := a) (b := b) (S := S)
      have hright := add_right (a := a) (b := b) (S := S)
      refine Sm.live [2, 3, 4, 6] ?_
      conv => whnf
      refine Sm.seqW ?_
      conv => whnf
      refine ⟨[0, 0, 3, 0, 0, 31, 0, 0, 255, 511], by decide +kernel, by decide +kernel, ?_⟩
      conv => whnf
      refine hp.loadA (l := a.cells) (by repeat (first | exact Has.here | apply Has.there | (apply Has.swap; repeat (first | exact HasR.here | apply HasR.there)))) rfl (by rfl) rfl rfl ?_
      conv => whnf
      refine hp.rst.call (wide_at hp.rst.wf ha hr (S := S) (by omega) (by omega)) ?_
      rintro _ s1 rfl h1 k1
      conv => whnf
      refine hp.dkN h1 k1 ?_
      clear hp h1 k1
      intro s hp
      conv => whnf
      refine hp.loadA (l := b.cells) (by repeat (first | exact Has.here | apply Has.there | (apply Has.swap; repeat (first | exact HasR.here | apply HasR.there)))) rfl (by rfl) rfl rfl ?_
      conv => whnf
      refine hp.rst.call (wide_at hp.rst.wf hb hrb (S := S) (by omega) (by omega)) ?_
      rintro _ s1 rfl h1 k1
      conv => whnf
      refine hp.dkN h1 k1 ?_
      clear hp h1 k1
      intro s hp
      conv => whnf
      generalize a.c * 10 ^ (S - a.scale).toNat = x at *
      generalize b.c * 10 ^ (S - b.scale).toNat = y at *
      refine hp.rst.alloc (cs := C4 0 0 0 0) (e := 1) rfl rfl rfl rfl rfl ?_
      intro p7 s1 h1 k1
      conv => whnf
      refine hp.dkN h1 k1 ?_
      clear hp h1 k1
      intro s hp
      conv => whnf
      refine hp.rst.alloc (cs := C4 0 0 0 0) (e := 1) rfl rfl rfl rfl rfl ?_
      intro p8 s1 h1 k1
      conv => whnf
      refine hp.dkN h1 k1 ?_
      clear hp h1 k1
      intro s hp
      conv => whnf
      refine hp.rst.storeW (vs := C4 (x % w64) (x / w64 % w64) (x / w128 % w64) (x / w192)) rfl (by repeat (first | exact Rm.here | apply Rm.there)) (by first | exact C2_same _ _ _ _ | exact C4_same _ _ _ _ _ _ _ _ | exact Dc_same _ _ | rfl) rfl rfl rfl ?_
      intro s1 h1 l1
      conv => whnf
      refine hp.dkW h1 l1 ?_
      clear hp h1 l1
      intro s hp
      conv => whnf
      refine hp.rst.storeW (vs := C4 (y % w64) (y / w64 % w64) (y / w128 % w64) (y / w192)) rfl (by repeat (first | exact Rm.here | apply Rm.there)) (by first | exact C2_same _ _ _ _ | exact C4_same _ _ _ _ _ _ _ _ | exact Dc_same _ _ | rfl) rfl rfl rfl ?_
      intro s1 h1 l1
      conv => whnf
      refine hp.dkW h1 l1 ?_
      clear hp h1 l1
      intro s hp
      conv => whnf
      refine Sm.live [2, 3, 4, 6, 7, 8] ?_
      conv => whnf
      refine Sm.seq ?_
      refine Sm.block ?_
      refine Sm.seqW ?_
      conv => whnf
      refine hp.load (v := .bool a.neg) (by repeat (first | exact Has.here | apply Has.there | (apply Has.swap; repeat (first | exact HasR.here | apply HasR.there)))) (by rfl) rfl rfl rfl ?_
      conv => whnf
      refine hp.load (v := .bool b.neg) (by repeat (first | exact Has.here | apply Has.there | (apply Has.swap; repeat (first | exact HasR.here | apply HasR.there)))) (by rfl) rfl rfl rfl ?_
      conv => whnf
      refine Om.of _ (rfl) ?_
      conv => whnf
      refine Sm.ofW ?_
      conv => whnf
      have xw : x < w256 := by simp only [w256] at *; omega
      have yw : y < w256 := by simp only [w256] at *; omega
      by_cases hn : a.neg = b.neg
      · refine Br.yes (beq_iff_eq.2 hn) ?_
        conv => whnf
        refine ⟨[0, 1, 0, 0, 12, 0, 63, 127, 127, 511, 1023], by decide +kernel, by decide +kernel, ?_⟩
        conv => whnf
        refine hp.load (v := .bool a.neg) (by repeat (first | exact Has.here | apply Has.there | (apply Has.swap; repeat (first | exact HasR.here | apply HasR.there)))) (by rfl) rfl rfl rfl ?_
        conv => whnf
        refine hp.loadA (l := C4 (x % w64) (x / w64 % w64) (x / w128 % w64) (x / w192)) (by repeat (first | exact Has.here | apply Has.there | (apply Has.swap; repeat (first | exact HasR.here | apply HasR.there)))) rfl (by rfl) rfl rfl ?_
        conv => whnf
        refine hp.loadA (l := C4 (y % w64) (y / w64 % w64) (y / w128 % w64) (y / w192)) (by repeat (first | exact Has.here | apply Has.there | (apply Has.swap; repeat (first | exact HasR.here | apply HasR.there)))) rfl (by rfl) rfl rfl ?_
        conv => whnf
        refine hp.rst.call (dplus_spec hp.rst.wf wa wb) ?_
        rintro _ s1 rfl h1 k1
        conv => whnf
        refine hp.dkN h1 k1 ?_
        clear hp h1 k1
        intro s hp
        conv => whnf
        refine hp.rst.call (dmade_spec hp.rst.wf a.neg (n := x + y) (by simp only [w256] at *; omega) S) ?_
        rintro _ s1 rfl h1 k1
        conv => whnf
        refine hp.dkN h1 k1 ?_
        clear hp h1 k1
        intro s hp
        conv => whnf
        rw [hsame hn, ← hfin]
        obtain ⟨r, re, hx⟩ := addF_shape a b
        rw [hx]
        conv => whnf
        refine hp.rst.storeW (vs := r.cells) rfl (by repeat (first | exact Rm.here | apply Rm.there)) (by first | exact C2_same _ _ _ _ | exact C4_same _ _ _ _ _ _ _ _ | exact Dc_same _ _ | rfl) rfl rfl rfl ?_
        intro s1 h1 l1
        conv => whnf
        refine hp.dkW h1 l1 ?_
        clear hp h1 l1
        intro s hp
        conv => whnf
        refine hp.loadA (l := r.cells) (by repeat (first | exact Has.here | apply Has.there | (apply Has.swap; repeat (first | exact HasR.here | apply HasR.there)))) rfl (by rfl) rfl rfl ?_
        conv => whnf
        exact ⟨hp.fr, rfl⟩
      · refine Br.no (beq_eq_false_iff_ne.2 hn) ?_
        conv => whnf
        refine hp.loadA (l := C4 (x % w64) (x / w64 % w64) (x / w128 % w64) (x / w192)) (by repeat (first | exact Has.here | apply Has.there | (apply Has.swap; repeat (first | exact HasR.here | apply HasR.there)))) rfl (by rfl) rfl rfl ?_
        conv => whnf
        refine hp.loadA (l := C4 (y % w64) (y / w64 % w64) (y / w128 % w64) (y / w192)) (by repeat (first | exact Has.here | apply Has.there | (apply Has.swap; repeat (first | exact HasR.here | apply HasR.there)))) rfl (by rfl) rfl rfl ?_
        conv => whnf
        refine hp.call (dcmp_spec hp.wf xw yw) ?_
        clear hp
        rintro _ s rfl hp _
        conv => whnf
        by_cases hle : y ≤ x
        · have hc : decide (cmpI x y ≥ 0) = true := decide_eq_true (by unfold cmpI; rw [if_neg (by omega)]; split <;> decide)
          refine Br.yes (hc) ?_
          conv => whnf
          refine ⟨[0, 1, 0, 0, 12, 0, 63, 127, 127, 511, 1023], by decide +kernel, by decide +kernel, ?_⟩
          conv => whnf
          refine hp.load (v := .bool a.neg) (by repeat (first | exact Has.here | apply Has.there | (apply Has.swap; repeat (first | exact HasR.here | apply HasR.there)))) (by rfl) rfl rfl rfl ?_
          conv => whnf
          refine hp.loadA (l := C4 (x % w64) (x / w64 % w64) (x / w128 % w64) (x / w192)) (by repeat (first | exact Has.here | apply Has.there | (apply Has.swap; repeat (first | exact HasR.here | apply HasR.there)))) rfl (by rfl) rfl rfl ?_
          conv => whnf
          refine hp.loadA (l := C4 (y % w64) (y / w64 % w64) (y / w128 % w64) (y / w192)) (by repeat (first | exact Has.here | apply Has.there | (apply Has.swap; repeat (first | exact HasR.here | apply HasR.there)))) rfl (by rfl) rfl rfl ?_
          conv => whnf
          refine hp.rst.call (dless_spec hp.rst.wf xw hle) ?_
          rintro _ s1 rfl h1 k1
          conv => whnf
          refine hp.dkN h1 k1 ?_
          clear hp h1 k1
          intro s hp
          conv => whnf
          refine hp.rst.call (dmade_spec hp.rst.wf a.neg (n := x - y) (by omega) S) ?_
          rintro _ s1 rfl h1 k1
          conv => whnf
          refine hp.dkN h1 k1 ?_
          clear hp h1 k1
          intro s hp
          conv => whnf
          rw [hleft hn hle, ← hfin]
          obtain ⟨r, re, hx⟩ := addF_shape a b
          rw [hx]
          conv => whnf
          refine hp.rst.storeW (vs := r.cells) rfl (by repeat (first | exact Rm.here | apply Rm.there)) (by first | exact C2_same _ _ _ _ | exact C4_same _ _ _ _ _ _ _ _ | exact Dc_same _ _ | rfl) rfl rfl rfl ?_
          intro s1 h1 l1
          conv => whnf
          refine hp.dkW h1 l1 ?_
          clear hp h1 l1
          intro s hp
          conv => whnf
          refine hp.loadA (l := r.cells) (by repeat (first | exact Has.here | apply Has.there | (apply Has.swap; repeat (first | exact HasR.here | apply HasR.there)))) rfl (by rfl) rfl rfl ?_
          conv => whnf
          exact ⟨hp.fr, rfl⟩
        · have hc : decide (cmpI x y ≥ 0) = false := decide_eq_false (by unfold cmpI; rw [if_pos (by omega)]; decide)
          refine Br.no (hc) ?_
          conv => whnf
          refine Sm.seqW ?_
          conv => whnf
          refine ⟨[0, 1, 0, 0, 12, 0, 63, 127, 127, 511, 1023], by decide +kernel, by decide +kernel, ?_⟩
          conv => whnf
          refine hp.load (v := .bool b.neg) (by repeat (first | exact Has.here | apply Has.there | (apply Has.swap; repeat (first | exact HasR.here | apply HasR.there)))) (by rfl) rfl rfl rfl ?_
          conv => whnf
          refine hp.loadA (l := C4 (y % w64) (y / w64 % w64) (y / w128 % w64) (y / w192)) (by repeat (first | exact Has.here | apply Has.there | (apply Has.swap; repeat (first | exact HasR.here | apply HasR.there)))) rfl (by rfl) rfl rfl ?_
          conv => whnf
          refine hp.loadA (l := C4 (x % w64) (x / w64 % w64) (x / w128 % w64) (x / w192)) (by repeat (first | exact Has.here | apply Has.there | (apply Has.swap; repeat (first | exact HasR.here | apply HasR.there)))) rfl (by rfl) rfl rfl ?_
          conv => whnf
          refine hp.rst.call (dless_spec hp.rst.wf yw (b := x) (by omega)) ?_
          rintro _ s1 rfl h1 k1
          conv => whnf
          refine hp.dkN h1 k1 ?_
          clear hp h1 k1
          intro s hp
          conv => whnf
          refine hp.rst.call (dmade_spec hp.rst.wf b.neg (n := y - x) (by omega) S) ?_
          rintro _ s1 rfl h1 k1
          conv => whnf
          refine hp.dkN h1 k1 ?_
          clear hp h1 k1
          intro s hp
          conv => whnf
          rw [hright hn (by omega), ← hfin]
          obtain ⟨r, re, hx⟩ := addF_shape a b
          rw [hx]
          conv => whnf
          refine hp.rst.storeW (vs := r.cells) rfl (by repeat (first | exact Rm.here | apply Rm.there)) (by first | exact C2_same _ _ _ _ | exact C4_same _ _ _ _ _ _ _ _ | exact Dc_same _ _ | rfl) rfl rfl rfl ?_
          intro s1 h1 l1
          conv => whnf
          refine hp.dkW h1 l1 ?_
          clear hp h1 l1
          intro s hp
          conv => whnf
          refine Sm.ofW ?_
          conv => whnf
          refine hp.loadA (l := r.cells) (by repeat (first | exact Has.here | apply Has.there | (apply Has.swap; repeat (first | exact HasR.here | apply HasR.there)))) rfl (by rfl) rfl rfl ?_
          conv => whnf
          exact ⟨hp.fr, rfl⟩
end Go.Ev
end

/- Decimals as whole numbers at a scale, without a program. No condition. -/
noncomputable section
namespace Go.Ev
open Go.Proofs
variable [Lk]
set_option linter.unusedSectionVars false
set_option linter.unusedVariables false

/-- A decimal of a whole number at a scale. -/
def mkD (x : Int) (S : Int) : Dc := ⟨decide (x < 0), x.natAbs, S⟩
theorem mkD_right {x S : Int} (h : x.natAbs < 10 ^ 30) (h1 : 0 ≤ S) (h2 : S ≤ 9) : (mkD x S).right = true := by
  unfold mkD Dc.right
  simp only [h, decide_true, Bool.true_and, Bool.and_eq_true, decide_eq_true_eq, Bool.not_eq_true', Bool.and_eq_false_iff, decide_eq_false_iff_not]
  exact ⟨h1, h2, by omega⟩
theorem mkI_ok {x S : Int} (h : x.natAbs < 10 ^ 30) : mkI x S = okD (mkD x S) := by
  unfold mkI
  rw [dmade_ok h]
  have : (decide (x < 0) && !decide (x.natAbs = 0)) = decide (x < 0) := by
    by_cases g : x < 0
    · rw [decide_eq_false (show ¬ x.natAbs = 0 by omega)]; simp
    · rw [decide_eq_false g]; rfl
  rw [this]; rfl
theorem up_mkD (x S T : Int) : up (mkD x S) T = x * 10 ^ (T - S).toNat := by
  unfold up mkD
  have e : ((10 : Int) ^ (T - S).toNat) = ((10 ^ (T - S).toNat : Nat) : Int) := by push_cast; rfl
  rw [e]
  generalize 10 ^ (T - S).toNat = g
  by_cases h : x < 0
  · rw [if_pos (by simpa using h), Int.natCast_mul, show ((x.natAbs : Nat) : Int) = -x by omega, Int.neg_mul, Int.neg_neg]
  · rw [if_neg (by simpa using h), Int.natCast_mul, show ((x.natAbs : Nat) : Int) = x by omega]
theorem addF_mkD {x y S T : Int} (hx : x.natAbs < 10 ^ 30) (hy : y.natAbs < 10 ^ 30) (s1 : 0 ≤ S) (s2 : S ≤ 9) (t1 : 0 ≤ T) (t2 : T ≤ 9) :
    addF (mkD x S) (mkD y T) = mkI (x * 10 ^ (max S T - S).toNat + y * 10 ^ (max S T - T).toNat) (max S T) := by
  unfold addF
  rw [if_neg (by simp [mkD_right hx s1 s2, mkD_right hy t1 t2]), up_mkD, up_mkD]
  rfl
end Go.Ev
end

/- Rounded numbers with their signs. No condition. -/
noncomputable section
namespace Go.Ev
open Go.Proofs
variable [Lk]
set_option linter.unusedSectionVars false
set_option linter.unusedVariables false
set_option maxRecDepth 100000

end Go.Ev
end

/- QuantUnits walked. No condition. -/
noncomputable section
namespace Go.Ev
open Go.Proofs
variable [Lk]
set_option linter.unusedSectionVars false
set_option linter.unusedVariables false
set_option maxRecDepth 100000

end Go.Ev
end

/- Texts: HasPrefix, CutPrefix, Cut at one byte. No condition. -/
noncomputable section
namespace Go.Ev
open Go.Proofs
variable [Lk]
set_option linter.unusedSectionVars false
set_option linter.unusedVariables false
set_option maxRecDepth 100000

/-- A text of these bytes. -/
abbrev sv (l : List UInt8) : Value := .string ⟨l.toArray⟩
end Go.Ev
end

/- Texts: IndexByte, Index and Cut at one byte. No condition. -/
noncomputable section
namespace Go.Ev
open Go.Proofs
variable [Lk]
set_option linter.unusedSectionVars false
set_option linter.unusedVariables false
set_option maxRecDepth 100000

end Go.Ev
end

/- Texts: Cut at one byte; a set of figures; Trim. No condition. -/
noncomputable section
namespace Go.Ev
open Go.Proofs
variable [Lk]
set_option linter.unusedSectionVars false
set_option linter.unusedVariables false
set_option maxRecDepth 100000

end Go.Ev
end

/- Texts: Trim of figures; dec.run. No condition. -/
noncomputable section
namespace Go.Ev
open Go.Proofs
variable [Lk]
set_option linter.unusedSectionVars false
set_option linter.unusedVariables false
set_option maxRecDepth 100000

end Go.Ev
end

/- dec.Read walked. No condition. -/
noncomputable section
namespace Go.Ev
open Go.Proofs
variable [Lk]
set_option linter.unusedSectionVars false
set_option linter.unusedVariables false
set_option maxRecDepth 100000

end Go.Ev
end

/- limb.Bits; pieces of an array. No condition. -/
noncomputable section
namespace Go.Ev
open Go.Proofs
variable [Lk]
set_option linter.unusedSectionVars false
set_option linter.unusedVariables false
set_option maxRecDepth 100000

end Go.Ev
end

/- dec.Print walked. No condition. -/
noncomputable section
namespace Go.Ev
open Go.Proofs
variable [Lk]
set_option linter.unusedSectionVars false
set_option linter.unusedVariables false
set_option maxRecDepth 100000

end Go.Ev
end

/- Chapter 2's example; the order of decimals at one scale. No condition. -/
noncomputable section
namespace Go.Ev
open Go.Proofs
variable [Lk]
set_option linter.unusedSectionVars false
set_option linter.unusedVariables false
set_option maxRecDepth 100000

end Go.Ev
end

/- What is printed of a decimal with more places. No condition. -/
noncomputable section
namespace Go.Ev
open Go.Proofs
variable [Lk]
set_option linter.unusedSectionVars false
set_option linter.unusedVariables false
set_option maxRecDepth 100000

end Go.Ev
end

/- What is printed is read the same. No condition. -/
noncomputable section
namespace Go.Ev
open Go.Proofs
variable [Lk]
set_option linter.unusedSectionVars false
set_option linter.unusedVariables false
set_option maxRecDepth 100000

end Go.Ev
end

/- The document's digits, Neg, Cmp, Add, Sub, Mul, Scaled of decimals. No condition. -/
noncomputable section
namespace Go.Ev
open Go.Proofs
variable [Lk]
set_option linter.unusedSectionVars false
set_option linter.unusedVariables false
set_option maxRecDepth 100000

end Go.Ev
end

/- The document's Print. No condition. -/
noncomputable section
namespace Go.Ev
open Go.Proofs
variable [Lk]
set_option linter.unusedSectionVars false
set_option linter.unusedVariables false
set_option maxRecDepth 100000

end Go.Ev
end

/- pyxlaw2.text. No condition. -/
noncomputable section
namespace Go.Ev
open Go.Proofs
variable [Lk]
set_option linter.unusedSectionVars false
set_option linter.unusedVariables false
set_option maxRecDepth 100000

end Go.Ev
end

/- The document's Read, without a program. No condition. -/
noncomputable section
namespace Go.Ev
open Go.Proofs
variable [Lk]
set_option linter.unusedSectionVars false
set_option linter.unusedVariables false
set_option maxRecDepth 100000

end Go.Ev
end

/- The document's Read walked. No condition. -/
noncomputable section
namespace Go.Ev
open Go.Proofs
variable [Lk]
set_option linter.unusedSectionVars false
set_option linter.unusedVariables false
set_option maxRecDepth 100000

end Go.Ev
end

/- Labels: bits, Below, Join, Meet, Right, Of. No condition. -/
noncomputable section
namespace Go.Ev
open Go.Proofs
variable [Lk]
set_option linter.unusedSectionVars false
set_option linter.unusedVariables false
set_option maxRecDepth 100000

/-- A label: its members as bits, its level. -/
structure Lb where
  set : Nat
  lev : Int
abbrev Lb.val (a : Lb) : Value := .agg #[.int .u64 (a.set : Int), .int .i64 a.lev]
abbrev Lb.cells (a : Lb) : List Value := [.int .u64 (a.set : Int), .int .i64 a.lev]
def Lb.ok (a : Lb) : Prop := a.set < 18446744073709551616 ∧ inR a.lev
def andn (a b : Nat) : Nat := a &&& (18446744073709551615 - b)
theorem andn_u64 {a b : Nat} (ha : a < 18446744073709551616) (hb : b < 18446744073709551616) :
    IntKind.u64.wrap ((BitVec.ofInt IntKind.u64.bits (a : Int) &&& ~~~ BitVec.ofInt IntKind.u64.bits (b : Int)).toNat : Int) = ((andn a b : Nat) : Int) := by
  have e : IntKind.u64.bits = 64 := rfl
  rw [e, bv_nat, bv_nat, BitVec.toNat_and, BitVec.toNat_not, BitVec.toNat_ofNat, BitVec.toNat_ofNat, wrap_u64, Nat.mod_eq_of_lt (show a < 2 ^ 64 from ha), Nat.mod_eq_of_lt (show b < 2 ^ 64 from hb)]
  have : a &&& (2 ^ 64 - 1 - b) < 2 ^ 64 := Nat.and_lt_two_pow a (by omega)
  rw [Nat.mod_eq_of_lt this]
  rfl
theorem nb0 (n : Nat) : (((n : Nat) : Int) == 0) = decide (n = 0) := by
  rw [Bool.eq_iff_iff, beq_iff_eq, decide_eq_true_iff]; omega
def belowF (a b : Lb) : Bool := decide (andn a.set b.set = 0) && decide (a.lev ≤ b.lev)
theorem below_spec {z : St} (wf : WF z) {a b : Lb} (ha : a.ok) (hb : b.ok) : Cw Try.prog 8 [a.val, b.val] z fun r s' => K0 z s' ∧ r = .bool (belowF a b) := by
  have hp : Hp (fun _ => False) z [] [] z := Hp.start _ wf _ (by simp)
  refine Cw.enterS Try.func8 rfl rfl ?_
  refine Sm.seqW ?_
  conv => whnf
  refine hp.var (cs := a.cells) (e := 2) rfl rfl ?_
  clear hp
  intro p2 s hp _
  conv => whnf
  refine hp.var (cs := b.cells) (e := 2) rfl rfl ?_
  clear hp
  intro p3 s hp _
  conv => whnf
  refine Sm.live [2, 3] ?_
  conv => whnf
  refine Sm.seqW ?_
  conv => whnf
  (refine hp.load (by repeat (first | exact Has.here | apply Has.there | (apply Has.swap; repeat (first | exact HasR.here | apply HasR.there)))) (by rfl) rfl rfl rfl ?_; conv => whnf)
  (refine hp.load (by repeat (first | exact Has.here | apply Has.there | (apply Has.swap; repeat (first | exact HasR.here | apply HasR.there)))) (by rfl) rfl rfl rfl ?_; conv => whnf)
  rw [andn_u64 ha.1 hb.1]
  unfold belowF
  by_cases q : andn a.set b.set = 0
  · have hq := (nb0 (andn a.set b.set)).trans (decide_eq_true q)
    repeat (first | (refine Br.yes hq ?_; conv => whnf) | (refine hp.load (by repeat (first | exact Has.here | apply Has.there | (apply Has.swap; repeat (first | exact HasR.here | apply HasR.there)))) (by rfl) rfl rfl rfl ?_; conv => whnf))
    refine Sm.ofW ?_
    conv => whnf
    rw [decide_eq_true q]
    exact ⟨hp.fr, rfl⟩
  · have hq := (nb0 (andn a.set b.set)).trans (decide_eq_false q)
    repeat (first | (refine Br.no hq ?_; conv => whnf) | (refine hp.load (by repeat (first | exact Has.here | apply Has.there | (apply Has.swap; repeat (first | exact HasR.here | apply HasR.there)))) (by rfl) rfl rfl rfl ?_; conv => whnf))
    refine Sm.ofW ?_
    conv => whnf
    rw [decide_eq_false q]
    exact ⟨hp.fr, rfl⟩
def joinF (a b : Lb) : Lb := ⟨a.set ||| b.set, if b.lev > a.lev then b.lev else a.lev⟩
theorem join_spec {z : St} (wf : WF z) {a b : Lb} (ha : a.ok) (hb : b.ok) : Cw Try.prog 6 [a.val, b.val] z fun r s' => K0 z s' ∧ r = (joinF a b).val := by
  have hp : Hp (fun _ => False) z [] [] z := Hp.start _ wf _ (by simp)
  refine Cw.enterS Try.func6 rfl rfl ?_
  refine Sm.seqW ?_
  conv => whnf
  refine hp.var (cs := a.cells) (e := 2) rfl rfl ?_
  clear hp
  intro p2 s hp _
  conv => whnf
  refine hp.var (cs := b.cells) (e := 2) rfl rfl ?_
  clear hp
  intro p3 s hp _
  conv => whnf
  refine hp.alloc (cs := (Lb.mk 0 0).cells) (e := 2) rfl rfl rfl rfl rfl ?_
  clear hp
  intro p4 s hp _
  conv => whnf
  refine Sm.live [2, 3, 4] ?_
  conv => whnf
  refine Sm.seqW ?_
  conv => whnf
  (refine hp.load (by repeat (first | exact Has.here | apply Has.there | (apply Has.swap; repeat (first | exact HasR.here | apply HasR.there)))) (by rfl) rfl rfl rfl ?_; conv => whnf)
  (refine hp.load (by repeat (first | exact Has.here | apply Has.there | (apply Has.swap; repeat (first | exact HasR.here | apply HasR.there)))) (by rfl) rfl rfl rfl ?_; conv => whnf)
  rw [or_u64 ha.1 hb.1]
  (refine hp.load (by repeat (first | exact Has.here | apply Has.there | (apply Has.swap; repeat (first | exact HasR.here | apply HasR.there)))) (by rfl) rfl rfl rfl ?_; conv => whnf)
  (refine hp.load (by repeat (first | exact Has.here | apply Has.there | (apply Has.swap; repeat (first | exact HasR.here | apply HasR.there)))) (by rfl) rfl rfl rfl ?_; conv => whnf)
  refine hp.storeW (vs := (joinF a b).cells) rfl (by repeat (first | exact Rm.here | apply Rm.there)) (by first | exact C2_same _ _ _ _ | exact C4_same _ _ _ _ _ _ _ _ | exact Dc_same _ _ | rfl) rfl rfl rfl ?_
  clear hp
  intro s hp _
  conv => whnf
  refine Sm.live [4] ?_
  conv => whnf
  refine Sm.ofW ?_
  conv => whnf
  refine hp.loadA (l := (joinF a b).cells) (by repeat (first | exact Has.here | apply Has.there | (apply Has.swap; repeat (first | exact HasR.here | apply HasR.there)))) rfl (by rfl) rfl rfl ?_
  conv => whnf
  exact ⟨hp.fr, rfl⟩
theorem IL : SlT Try.prog 22 3 1 8 (.int .i64 0) := ⟨Try.underlying22, ⟨_, rfl, rfl, rfl, rfl⟩, rfl, rfl, by decide, by decide⟩
end Go.Ev
end

/- Labels, as the document has them. No condition. -/
noncomputable section
namespace Go.Ev
open Go.Proofs
variable [Lk]
set_option linter.unusedSectionVars false
set_option linter.unusedVariables false
set_option maxRecDepth 100000

theorem andn_bit {a b : Nat} (hb : b < 18446744073709551616) (k : Nat) (hk : k < 64) : (andn a b).testBit k = (a.testBit k && !b.testBit k) := by
  unfold andn
  rw [Nat.testBit_and]
  have : 18446744073709551615 - b = 2 ^ 64 - (b + 1) := by omega
  rw [this, Nat.testBit_two_pow_sub_succ (show b < 2 ^ 64 from hb)]
  simp [hk]
theorem andn_zero {a b : Nat} (ha : a < 18446744073709551616) (hb : b < 18446744073709551616) : andn a b = 0 ↔ ∀ k, k < 64 → a.testBit k = true → b.testBit k = true := by
  constructor
  · intro h k hk h1
    have := andn_bit (a := a) hb k hk
    rw [h, Nat.zero_testBit, h1] at this
    cases h2 : b.testBit k with
    | true => rfl
    | false => rw [h2] at this; cases this
  · intro h
    apply Nat.eq_of_testBit_eq
    intro i
    rw [Nat.zero_testBit]
    rcases Nat.lt_or_ge i 64 with hi | hi
    · rw [andn_bit hb i hi]
      cases h1 : a.testBit i with
      | false => rfl
      | true => rw [h i hi h1]; rfl
    · refine Nat.testBit_lt_two_pow (Nat.lt_of_le_of_lt Nat.and_le_left (Nat.lt_of_lt_of_le ha ?_))
      have h64 : (2 : Nat) ^ 64 ≤ 2 ^ i := Nat.pow_le_pow_right (by omega) hi
      exact h64
end Go.Ev
end

/- Labels: equality (again, without what is printed). No condition. -/
noncomputable section
namespace Go.Ev
open Go.Proofs
variable [Lk]
set_option linter.unusedSectionVars false
set_option linter.unusedVariables false
set_option maxRecDepth 100000

end Go.Ev
end

/- Labels: an order and its joins, without a program. No condition. -/
noncomputable section
namespace Go.Ev
open Go.Proofs
variable [Lk]
set_option linter.unusedSectionVars false
set_option linter.unusedVariables false
set_option maxRecDepth 100000

/-- A small label: as the laws make them. -/
structure Lb.sm (a : Lb) : Prop where
  set : a.set < 256
  lo : 0 ≤ a.lev
  hi : a.lev ≤ 3
theorem Lb.sm.ok {a : Lb} (h : a.sm) : a.ok := ⟨by have := h.set; omega, by have := h.lo; have := h.hi; unfold inR; omega⟩
theorem bit_big {a k : Nat} (ha : a < 256) (hk : 64 ≤ k) : a.testBit k = false :=
  Nat.testBit_lt_two_pow (Nat.lt_of_lt_of_le ha (Nat.le_trans (show 256 ≤ 2 ^ 64 by decide) (Nat.pow_le_pow_right (by decide) hk)))
theorem belowF_iff {a b : Lb} (ha : a.sm) (hb : b.sm) : belowF a b = true ↔ (∀ k, a.set.testBit k = true → b.set.testBit k = true) ∧ a.lev ≤ b.lev := by
  unfold belowF
  rw [Bool.and_eq_true, decide_eq_true_iff, decide_eq_true_iff, andn_zero ha.ok.1 hb.ok.1]
  constructor
  · rintro ⟨h1, h2⟩
    refine ⟨fun k hk => ?_, h2⟩
    rcases Nat.lt_or_ge k 64 with g | g
    · exact h1 k g hk
    · rw [bit_big ha.set g] at hk; cases hk
  · rintro ⟨h1, h2⟩
    exact ⟨fun k _ hk => h1 k hk, h2⟩
theorem joinF_sm {a b : Lb} (ha : a.sm) (hb : b.sm) : (joinF a b).sm := by
  refine ⟨Nat.or_lt_two_pow (n := 8) ha.set hb.set, ?_, ?_⟩
  · show 0 ≤ if b.lev > a.lev then b.lev else a.lev
    have := ha.lo; have := hb.lo; split <;> omega
  · show (if b.lev > a.lev then b.lev else a.lev) ≤ 3
    have := ha.hi; have := hb.hi; split <;> omega
theorem join_bit (a b : Lb) (k : Nat) : (joinF a b).set.testBit k = (a.set.testBit k || b.set.testBit k) := Nat.testBit_or _ _ _
theorem join_lev (a b : Lb) : (joinF a b).lev = if b.lev > a.lev then b.lev else a.lev := rfl
theorem below_trans {a b c : Lb} (ha : a.sm) (hb : b.sm) (hc : c.sm) (h1 : belowF a b = true) (h2 : belowF b c = true) : belowF a c = true := by
  obtain ⟨p1, p2⟩ := (belowF_iff ha hb).1 h1
  obtain ⟨q1, q2⟩ := (belowF_iff hb hc).1 h2
  exact (belowF_iff ha hc).2 ⟨fun k h => q1 k (p1 k h), by omega⟩
theorem below_j1 {a b : Lb} (ha : a.sm) (hb : b.sm) : belowF a (joinF a b) = true := by
  refine (belowF_iff ha (joinF_sm ha hb)).2 ⟨fun k h => ?_, ?_⟩
  · rw [join_bit, h]; rfl
  · rw [join_lev]; split <;> omega
theorem below_j2 {a b : Lb} (ha : a.sm) (hb : b.sm) : belowF b (joinF a b) = true := by
  refine (belowF_iff hb (joinF_sm ha hb)).2 ⟨fun k h => ?_, ?_⟩
  · rw [join_bit, h]; simp
  · rw [join_lev]; split <;> omega
theorem below_jl {a b c : Lb} (ha : a.sm) (hb : b.sm) (hc : c.sm) (h1 : belowF a c = true) (h2 : belowF b c = true) : belowF (joinF a b) c = true := by
  obtain ⟨p1, p2⟩ := (belowF_iff ha hc).1 h1
  obtain ⟨q1, q2⟩ := (belowF_iff hb hc).1 h2
  refine (belowF_iff (joinF_sm ha hb) hc).2 ⟨fun k h => ?_, ?_⟩
  · rw [join_bit, Bool.or_eq_true] at h
    exact h.elim (p1 k) (q1 k)
  · rw [join_lev]; split <;> omega
end Go.Ev
end

/- Views without a program: rows, what is seen of them, sums. No condition. -/
noncomputable section
namespace Go.Ev
open Go.Proofs
variable [Lk]
set_option linter.unusedSectionVars false
set_option linter.unusedVariables false
set_option maxRecDepth 100000

/-- A row. -/
structure Rv where
  e : Int
  ac : Int
  p : Int
  w : Int
  am : Dc
  l : Lb
def Rv.cells (r : Rv) : List Value := [.int .i64 r.e, .int .i64 r.ac, .int .i64 r.p, .int .i64 r.w, .bool r.am.neg, .int .u64 ((r.am.c % w64 : Nat) : Int), .int .u64 ((r.am.c / w64 : Nat) : Int), .int .i64 r.am.scale, .int .u64 (r.l.set : Int), .int .i64 r.l.lev]
def Rv.val (r : Rv) : Value := .agg #[.int .i64 r.e, .int .i64 r.ac, .int .i64 r.p, .int .i64 r.w, .bool r.am.neg, .int .u64 ((r.am.c % w64 : Nat) : Int), .int .u64 ((r.am.c / w64 : Nat) : Int), .int .i64 r.am.scale, .int .u64 (r.l.set : Int), .int .i64 r.l.lev]
def rvCells (l : List Rv) : List Value := l.flatMap Rv.cells
/-- What is answered. -/
structure Ov where
  key : Int
  v : Dc
  l : Lb
def Ov.cells (r : Ov) : List Value := [.int .i64 r.key, .bool r.v.neg, .int .u64 ((r.v.c % w64 : Nat) : Int), .int .u64 ((r.v.c / w64 : Nat) : Int), .int .i64 r.v.scale, .int .u64 (r.l.set : Int), .int .i64 r.l.lev]
def Ov.val (r : Ov) : Value := .agg #[.int .i64 r.key, .bool r.v.neg, .int .u64 ((r.v.c % w64 : Nat) : Int), .int .u64 ((r.v.c / w64 : Nat) : Int), .int .i64 r.v.scale, .int .u64 (r.l.set : Int), .int .i64 r.l.lev]
def ovCells (l : List Ov) : List Value := l.flatMap Ov.cells
def Ov.zero : Ov := ⟨0, ⟨false, 0, 0⟩, ⟨0, 0⟩⟩
/-- Cells of rows, one behind the other: what holds of any such. -/
theorem flat_cells_length {α : Type} (f : α → List Value) (m : Nat) (hm : ∀ x, (f x).length = m) (l : List α) : (l.flatMap f).length = l.length * m := by
  induction l with
  | nil => simp
  | cons x l ih => rw [List.flatMap_cons, List.length_append, hm, ih, List.length_cons, Nat.add_mul]; omega
theorem flat_cells_drop {α : Type} (f : α → List Value) (m : Nat) (hm : ∀ x, (f x).length = m) (l : List α) (i : Nat) : (l.flatMap f).drop (i * m) = (l.drop i).flatMap f := by
  induction i generalizing l with
  | zero => simp
  | succ i ih =>
    cases l with
    | nil => simp
    | cons x l =>
      rw [List.flatMap_cons, show (i + 1) * m = m + i * m by rw [Nat.add_mul]; omega, ← List.drop_drop, List.drop_left' (hm x), ih]
      rfl
theorem flat_cells_at {α : Type} (f : α → List Value) (m : Nat) (hm : ∀ x, (f x).length = m) {l : List α} {i : Nat} (h : i < l.length) : ((l.flatMap f).drop (i * m)).take m = f l[i] := by
  rw [flat_cells_drop f m hm, List.drop_eq_getElem_cons h, List.flatMap_cons, List.take_left' (hm _)]
theorem flat_cells_one {α : Type} (f : α → List Value) (hf : ∀ x, (f x).all (·.oneCell') = true) (l : List α) : (l.flatMap f).all (·.oneCell') = true := by
  rw [List.all_eq_true]
  intro x hx
  obtain ⟨r, _, hr⟩ := List.mem_flatMap.1 hx
  exact List.all_eq_true.1 (hf r) x hr
theorem rvCells_append (a b : List Rv) : rvCells (a ++ b) = rvCells a ++ rvCells b := by simp [rvCells]
theorem rv_at {l : List Rv} {i : Nat} (h : i < l.length) : ((rvCells l).drop (i * 10)).take 10 = l[i].cells := flat_cells_at _ 10 (fun _ => rfl) h
theorem ovCells_length (l : List Ov) : (ovCells l).length = l.length * 7 := flat_cells_length _ 7 (fun _ => rfl) l
theorem ovCells_one (l : List Ov) : (ovCells l).all (·.oneCell') = true := flat_cells_one _ (fun _ => rfl) l
theorem ovCells_append (a b : List Ov) : ovCells (a ++ b) = ovCells a ++ ovCells b := by simp [ovCells]
theorem ov_at {l : List Ov} {i : Nat} (h : i < l.length) : ((ovCells l).drop (i * 7)).take 7 = l[i].cells := flat_cells_at _ 7 (fun _ => rfl) h
/-- The label of an entity in a table. -/
def labE (e : Int) : Lb := ⟨2 ^ e.toNat, e⟩
/-- A row of two raw numbers. -/
def rowF (x y : Int) : Rv := ⟨x % 4, x.tdiv 4 % 16, x.tdiv 64 % 3, x.tdiv 192 % 4 - 1, ofD (y % 20001 - 10000) (y.tdiv 7 % 3), labE (x % 4)⟩
/-- The first rows of a table. -/
def tabN (l : List Int) (k : Nat) : List Rv := (List.range k).map fun j => rowF (l.getD (2 * j) 0) (l.getD (2 * j + 1) 0)
def tabF (l : List Int) : List Rv := tabN l (min 20 (l.length / 2))
theorem tabN_succ (l : List Int) (k : Nat) : tabN l (k + 1) = tabN l k ++ [rowF (l.getD (2 * k) 0) (l.getD (2 * k + 1) 0)] := by
  unfold tabN
  rw [List.range_succ, List.map_append]; rfl
/-- A row of a table: not large, its label of its entity. -/
structure Rv.ok (r : Rv) : Prop where
  am : ∃ x S : Int, r.am = mkD x S ∧ -10000 ≤ x ∧ x ≤ 10000 ∧ 0 ≤ S ∧ S ≤ 2
  l : r.l.sm
  e : 0 ≤ r.e ∧ r.e ≤ 3
theorem labE_sm {e : Int} (h : 0 ≤ e) (h' : e ≤ 3) : (labE e).sm := by
  have : e = 0 ∨ e = 1 ∨ e = 2 ∨ e = 3 := by omega
  rcases this with rfl | rfl | rfl | rfl <;> exact ⟨by decide, by decide, by decide⟩
theorem rowF_ok (x y : Int) : (rowF x y).ok := by
  refine ⟨⟨y % 20001 - 10000, y.tdiv 7 % 3, ?_, by omega, by omega, by omega, by omega⟩, labE_sm (by omega) (by omega), ⟨by show 0 ≤ x % 4; omega, by show x % 4 ≤ 3; omega⟩⟩
  show ofD _ _ = mkD _ _
  unfold ofD mkD
  congr 1
  omega
theorem tabN_ok (l : List Int) (k : Nat) : ∀ r ∈ tabN l k, r.ok := by
  intro r hr
  obtain ⟨j, _, rfl⟩ := List.mem_map.1 hr
  exact rowF_ok _ _
/-- What may be seen. -/
def seesF (rows : List Rv) (c : Lb) : List Rv := rows.filter fun r => belowF r.l c
/-- Sums: of whole numbers at scales. -/
def addP (a b : Int × Int) : Int × Int := (a.1 * 10 ^ (max a.2 b.2 - a.2).toNat + b.1 * 10 ^ (max a.2 b.2 - b.2).toNat, max a.2 b.2)
theorem addF_P {a b : Int × Int} (ha : a.1.natAbs ≤ 1000000000) (hb : b.1.natAbs ≤ 1000000000) (a1 : 0 ≤ a.2) (a2 : a.2 ≤ 2) (b1 : 0 ≤ b.2) (b2 : b.2 ≤ 2) : addF (mkD a.1 a.2) (mkD b.1 b.2) = okD (mkD (addP a b).1 (addP a b).2) := by
  rw [addF_mkD (by omega) (by omega) a1 (by omega) b1 (by omega)]
  refine mkI_ok ?_
  have h1 : (max a.2 b.2 - a.2).toNat ≤ 2 := by omega
  have h2 : (max a.2 b.2 - b.2).toNat ≤ 2 := by omega
  generalize (max a.2 b.2 - a.2).toNat = i at h1
  generalize (max a.2 b.2 - b.2).toNat = j at h2
  have e30 : 10 ^ 30 = 1000000000000000000000000000000 := by decide
  rw [e30]
  have c1 : (10 : Int) ^ i = 1 ∨ (10 : Int) ^ i = 10 ∨ (10 : Int) ^ i = 100 := by
    have : i = 0 ∨ i = 1 ∨ i = 2 := by omega
    rcases this with rfl | rfl | rfl <;> decide
  have c2 : (10 : Int) ^ j = 1 ∨ (10 : Int) ^ j = 10 ∨ (10 : Int) ^ j = 100 := by
    have : j = 0 ∨ j = 1 ∨ j = 2 := by omega
    rcases this with rfl | rfl | rfl <;> decide
  rcases c1 with c1 | c1 | c1 <;> rcases c2 with c2 | c2 | c2 <;> rw [c1, c2] <;> omega
/-- The parts of a row's amount. -/
def Rv.pr (r : Rv) : Int × Int := (if r.am.neg = true then -(r.am.c : Int) else r.am.c, r.am.scale)
theorem pr_ok {r : Rv} (h : r.ok) : r.am = mkD r.pr.1 r.pr.2 ∧ r.pr.1.natAbs ≤ 10000 ∧ 0 ≤ r.pr.2 ∧ r.pr.2 ≤ 2 := by
  obtain ⟨x, S, h1, h2, h3, h4, h5⟩ := h.am
  have : r.pr = (x, S) := by
    unfold Rv.pr
    rw [h1]
    unfold mkD
    simp only [decide_eq_true_eq]
    congr 1
    split <;> omega
  rw [this, h1]
  exact ⟨rfl, by simp only; omega, h4, h5⟩
def sumP (l : List Rv) : Int × Int := l.foldl (fun a r => addP a r.pr) (0, 0)
def joinL (l : List Rv) : Lb := l.foldl (fun a r => joinF a r.l) ⟨0, 0⟩
theorem sumP_snoc (l : List Rv) (r : Rv) : sumP (l ++ [r]) = addP (sumP l) r.pr := by unfold sumP; rw [List.foldl_append]; rfl
theorem joinL_snoc (l : List Rv) (r : Rv) : joinL (l ++ [r]) = joinF (joinL l) r.l := by unfold joinL; rw [List.foldl_append]; rfl
theorem snoc_ind {α : Type} {P : List α → Prop} (h0 : P []) (h1 : ∀ l x, P l → P (l ++ [x])) (l : List α) : P l := by
  have : ∀ n (l : List α), l.length = n → P l := by
    intro n
    induction n with
    | zero => intro l hl; rw [List.length_eq_zero_iff.1 hl]; exact h0
    | succ n ih =>
      intro l hl
      have hne : l ≠ [] := by intro e; rw [e] at hl; simp at hl
      rw [← List.dropLast_concat_getLast hne]
      exact h1 _ _ (ih _ (by simp; omega))
  exact this _ l rfl
theorem addP_bd {a b : Int × Int} {A B : Nat} (ha : a.1.natAbs * 10 ^ (2 - a.2).toNat ≤ A) (hb : b.1.natAbs * 10 ^ (2 - b.2).toNat ≤ B) (a1 : 0 ≤ a.2) (a2 : a.2 ≤ 2) (b1 : 0 ≤ b.2) (b2 : b.2 ≤ 2) :
    (addP a b).1.natAbs * 10 ^ (2 - (addP a b).2).toNat ≤ A + B ∧ 0 ≤ (addP a b).2 ∧ (addP a b).2 ≤ 2 := by
  obtain ⟨x, S⟩ := a
  obtain ⟨y, T⟩ := b
  simp only at ha hb a1 a2 b1 b2
  have hS : S = 0 ∨ S = 1 ∨ S = 2 := by omega
  have hT : T = 0 ∨ T = 1 ∨ T = 2 := by omega
  have m00 : max (0 : Int) 0 = 0 := rfl
  have m01 : max (0 : Int) 1 = 1 := rfl
  have m02 : max (0 : Int) 2 = 2 := rfl
  have m10 : max (1 : Int) 0 = 1 := rfl
  have m11 : max (1 : Int) 1 = 1 := rfl
  have m12 : max (1 : Int) 2 = 2 := rfl
  have m20 : max (2 : Int) 0 = 2 := rfl
  have m21 : max (2 : Int) 1 = 2 := rfl
  have m22 : max (2 : Int) 2 = 2 := rfl
  have t0 : ((0 : Int) - 0).toNat = 0 := rfl
  have t1 : ((1 : Int) - 0).toNat = 1 := rfl
  have t2 : ((2 : Int) - 0).toNat = 2 := rfl
  have t3 : ((1 : Int) - 1).toNat = 0 := rfl
  have t4 : ((2 : Int) - 1).toNat = 1 := rfl
  have t5 : ((2 : Int) - 2).toNat = 0 := rfl
  have p0 : (10 : Int) ^ 0 = 1 := rfl
  have p1 : (10 : Int) ^ 1 = 10 := rfl
  have p2 : (10 : Int) ^ 2 = 100 := rfl
  have n0 : 10 ^ 0 = 1 := rfl
  have n1 : 10 ^ 1 = 10 := rfl
  have n2 : 10 ^ 2 = 100 := rfl
  unfold addP
  rcases hS with rfl | rfl | rfl <;> rcases hT with rfl | rfl | rfl <;> simp only [m00, m01, m02, m10, m11, m12, m20, m21, m22, t0, t1, t2, t3, t4, t5, p0, p1, p2, n0, n1, n2] at ha hb ⊢ <;> omega
theorem sumP_ok {l : List Rv} (h : ∀ r ∈ l, r.ok) : (sumP l).1.natAbs * 10 ^ (2 - (sumP l).2).toNat ≤ l.length * 1000000 ∧ 0 ≤ (sumP l).2 ∧ (sumP l).2 ≤ 2 := by
  revert h
  refine snoc_ind (P := fun l => (∀ r ∈ l, r.ok) → (sumP l).1.natAbs * 10 ^ (2 - (sumP l).2).toNat ≤ l.length * 1000000 ∧ 0 ≤ (sumP l).2 ∧ (sumP l).2 ≤ 2) ?_ ?_ l
  · intro _
    exact ⟨by show (0 : Int).natAbs * _ ≤ _; simp, by decide, by decide⟩
  · intro l r ih h
    obtain ⟨i1, i2, i3⟩ := ih (fun x hx => h x (by simp [hx]))
    obtain ⟨-, p1, p2, p3⟩ := pr_ok (h r (by simp))
    rw [sumP_snoc]
    have hb : r.pr.1.natAbs * 10 ^ (2 - r.pr.2).toNat ≤ 1000000 := by
      have : r.pr.2 = 0 ∨ r.pr.2 = 1 ∨ r.pr.2 = 2 := by omega
      rcases this with e | e | e <;> rw [e] <;> simp <;> omega
    have := addP_bd i1 hb i2 i3 p2 p3
    refine ⟨?_, this.2⟩
    simp only [List.length_append, List.length_singleton, Nat.add_mul, Nat.one_mul]
    exact this.1
theorem sumP_lim {l : List Rv} (h : ∀ r ∈ l, r.ok) (hl : l.length ≤ 100) : (sumP l).1.natAbs ≤ 1000000000 ∧ 0 ≤ (sumP l).2 ∧ (sumP l).2 ≤ 2 := by
  obtain ⟨h1, h2, h3⟩ := sumP_ok h
  refine ⟨?_, h2, h3⟩
  have : 1 ≤ 10 ^ (2 - (sumP l).2).toNat := Nat.pow_pos (by decide)
  have h4 : (sumP l).1.natAbs * 1 ≤ (sumP l).1.natAbs * 10 ^ (2 - (sumP l).2).toNat := Nat.mul_le_mul_left _ this
  omega
theorem joinL_sm {l : List Rv} (h : ∀ r ∈ l, r.l.sm) : (joinL l).sm := by
  revert h
  refine snoc_ind (P := fun l => (∀ r ∈ l, r.l.sm) → (joinL l).sm) ?_ ?_ l
  · intro _; exact ⟨by decide, by decide, by decide⟩
  · intro l r ih h
    rw [joinL_snoc]
    exact joinF_sm (ih fun x hx => h x (by simp [hx])) (h r (by simp))
/-- Each row's label is below the join. -/
theorem below_joinL {l : List Rv} (h : ∀ r ∈ l, r.l.sm) : ∀ r ∈ l, belowF r.l (joinL l) = true := by
  revert h
  refine snoc_ind (P := fun l => (∀ r ∈ l, r.l.sm) → ∀ r ∈ l, belowF r.l (joinL l) = true) ?_ ?_ l
  · intro _ r hr; cases hr
  · intro l x ih h r hr
    have hl : ∀ r ∈ l, r.l.sm := fun y hy => h y (by simp [hy])
    have hx := h x (by simp)
    have hj := joinL_sm hl
    rw [joinL_snoc]
    rcases List.mem_append.1 hr with g | g
    · exact below_trans (h r hr) hj (joinF_sm hj hx) (ih hl r g) (below_j1 hj hx)
    · rw [List.mem_singleton] at g; subst g
      exact below_j2 hj hx
theorem joinL_below {l : List Rv} (h : ∀ r ∈ l, r.l.sm) {c : Lb} (hc : c.sm) (hb : ∀ r ∈ l, belowF r.l c = true) : belowF (joinL l) c = true := by
  revert h hb
  refine snoc_ind (P := fun l => (∀ r ∈ l, r.l.sm) → (∀ r ∈ l, belowF r.l c = true) → belowF (joinL l) c = true) ?_ ?_ l
  · intro _ _
    refine (belowF_iff ⟨by decide, by decide, by decide⟩ hc).2 ⟨fun k hk => ?_, hc.lo⟩
    have : (0 : Nat).testBit k = true := hk
    simp at this
  · intro l x ih h hb
    have hl : ∀ r ∈ l, r.l.sm := fun y hy => h y (by simp [hy])
    rw [joinL_snoc]
    exact below_jl (joinL_sm hl) (h x (by simp)) hc (ih hl fun y hy => hb y (by simp [hy])) (hb x (by simp))
end Go.Ev
end

/- Views: a table of raw numbers. No condition. -/
noncomputable section
namespace Go.Ev
open Go.Proofs
variable [Lk]
set_option linter.unusedSectionVars false
set_option linter.unusedVariables false
set_option maxRecDepth 100000

theorem RV : SlT Try.prog 23 38 10 80 (.agg #[.int .i64 0, .int .i64 0, .int .i64 0, .int .i64 0, .bool false, .int .u64 0, .int .u64 0, .int .i64 0, .int .u64 0, .int .i64 0]) := ⟨Try.underlying23, ⟨_, rfl, rfl, rfl, rfl⟩, rfl, rfl, by decide, by decide⟩
theorem RD : SlT Try.prog 24 54 10 80 (.agg #[.int .i64 0, .int .i64 0, .int .i64 0, .int .i64 0, .bool false, .int .u64 0, .int .u64 0, .int .i64 0, .int .u64 0, .int .i64 0]) := ⟨Try.underlying24, ⟨_, rfl, rfl, rfl, rfl⟩, rfl, rfl, by decide, by decide⟩
theorem RO7 : SlT Try.prog 40 49 7 56 (.agg #[.int .i64 0, .bool false, .int .u64 0, .int .u64 0, .int .i64 0, .int .u64 0, .int .i64 0]) := ⟨Try.underlying40, ⟨_, rfl, rfl, rfl, rfl⟩, rfl, rfl, by decide, by decide⟩
theorem RLb : SlT Try.prog 25 31 2 16 (.agg #[.int .u64 0, .int .i64 0]) := ⟨Try.underlying25, ⟨_, rfl, rfl, rfl, rfl⟩, rfl, rfl, by decide, by decide⟩
/-- The labels of a table. -/
def labC : List Value := [.int .u64 1, .int .i64 0, .int .u64 2, .int .i64 1, .int .u64 4, .int .i64 2, .int .u64 8, .int .i64 3]
theorem labC_at {e : Nat} (h : e < 4) : sl labC (0 + e * 2) 2 = some (labE (e : Int)).cells := by
  have : e = 0 ∨ e = 1 ∨ e = 2 ∨ e = 3 := by omega
  rcases this with rfl | rfl | rfl | rfl <;> rfl
section
variable {X : Nat → Prop} {s0 s : St} {R F G : List At}
theorem table_spec (hp : Hp X s0 R F s) {v : Value} {l : List Int} (hv : HasR (slA none v 1 l.length (l.map (Value.int .i64))) R) (hl : l.length ≤ 140737488351232) (hin : ∀ n ∈ l, inR n) {K : Value → St → Prop}
    (hK : ∀ κa va κb vb b s', Hp X s0 R (onA κa va 10 (tabF l).length (rvCells (tabF l)) :: onA κb vb 10 (tabF l).length (rvCells (tabF l)) :: blkA b b labC 2 :: F) s' → K (.tuple #[va, vb, .slice (some ⟨b, 0, none⟩) 4 4]) s') :
    Cw Try.prog 4 [v] s K := by
  obtain ⟨a, c, rfl⟩ := (hp.slR hv).shape
  refine Cw.enterS Try.func4 rfl rfl ?_
  refine Sm.seqW ?_
  conv => whnf
  refine Sm.seqW ?_
  conv => whnf
  refine Sm.seqW ?_
  conv => whnf
  refine Sm.seqW ?_
  conv => whnf
  refine hp.lit (cs := labC) (e := 2) rfl ?_
  clear hp
  intro bl s hp _
  conv => whnf
  refine Sm.live [0, 5, 6, 7] ?_
  conv => whnf
  refine Sm.seq ?_
  refine Sm.seqW ?_
  conv => whnf
  refine Sm.block ?_
  refine Sm.loop ?_
  refine Lp.ofS (α := Nat × Option Nat × Value × Option Nat × Value) (fun x => [(0, .slice a l.length c), (5, x.2.2.1), (6, x.2.2.2.2), (7, .slice (some ⟨bl, 0, none⟩) 4 4), (8, .int .i64 ((2 * x.1 : Nat) : Int))])
    (fun x s' => 2 * x.1 ≤ l.length ∧ x.1 ≤ 20 ∧ Hp X s0 R (onA x.2.1 x.2.2.1 10 x.1 (rvCells (tabN l x.1)) :: onA x.2.2.2.1 x.2.2.2.2 10 x.1 (rvCells (tabN l x.1)) :: blkA bl bl labC 2 :: F) s')
    (fun x => 20 - x.1) ?_ (0, none, .slice none 0 0, none, .slice none 0 0) (subK_ok (by refine ⟨rfl, rfl, rfl, rfl, rfl, trivial⟩))
    ⟨by omega, by omega, (hp.push (a := onA none (.slice none 0 0) 10 0 []) (.refl hp.wf) ⟨.inl ⟨rfl, rfl, rfl, rfl⟩⟩ fun j hj => by cases hj).push (a := onA none (.slice none 0 0) 10 0 []) (.refl hp.wf) ⟨.inl ⟨rfl, rfl, rfl, rfl⟩⟩ fun j hj => by cases hj⟩
  clear hp
  rintro ⟨k, κa, va, κb, vb⟩ s ⟨hk, hk20, hp⟩
  simp only at hk hk20 hp
  have e1 : IntKind.i64.wrap (((2 * k : Nat) : Int) + 1) = ((2 * k + 1 : Nat) : Int) := by rw [wi64 (by omega) (by omega)]; push_cast; rfl
  refine Sm.seq ?_
  refine Sm.seqC (fun e L' s' => e = .normal ∧ s' = s ∧ ∃ q, Sub [(0, .slice a l.length c), (5, va), (6, vb), (7, .slice (some ⟨bl, 0, none⟩) 4 4), (8, .int .i64 ((2 * k : Nat) : Int)), (24, .bool q)] L' ∧ (q = true ↔ (2 * k + 1 < l.length ∧ k < 20))) ?_ ?_
  · conv => whnf
    by_cases c1 : 2 * k + 1 < l.length
    · have d1 : decide (IntKind.i64.wrap (((2 * k : Nat) : Int) + 1) < (l.length : Int)) = true := by rw [e1]; exact decide_eq_true (by omega)
      repeat (first | (refine Br.yes (by first | with_reducible rfl | exact d1) ?_; conv => whnf))
      exact ⟨rfl, rfl, _, subK_ok ⟨rfl, rfl, rfl, rfl, rfl, rfl, trivial⟩, by rw [decide_eq_true_eq]; omega⟩
    · have d1 : decide (IntKind.i64.wrap (((2 * k : Nat) : Int) + 1) < (l.length : Int)) = false := by rw [e1]; exact decide_eq_false (by omega)
      repeat (first | (refine Br.no (by first | with_reducible rfl | exact d1) ?_; conv => whnf))
      exact ⟨rfl, rfl, false, subK_ok ⟨rfl, rfl, rfl, rfl, rfl, rfl, trivial⟩, by simp; omega⟩
  rintro e L' s ⟨rfl, rfl, q, hsub, hq⟩
  refine Sm.weak _ hsub ?_
  clear hsub
  refine Sm.ofW ?_
  conv => whnf
  cases q with
  | false =>
    have hkk : k = min 20 (l.length / 2) := by
      have : ¬ (2 * k + 1 < l.length ∧ k < 20) := fun h => by have := hq.2 h; cases this
      omega
    refine Br.no rfl ?_
    conv => whnf
    refine Sm.seqW ?_
    conv => whnf
    refine Sm.ofW ?_
    conv => whnf
    have ht : tabN l k = tabF l := by unfold tabF; rw [← hkk]
    have hlen : (tabF l).length = k := by rw [← ht]; simp [tabN]
    refine ⟨hK κa va κb vb bl _ ?_⟩
    rw [hlen, ← ht]
    exact hp
  | true =>
    obtain ⟨hk1, hk2⟩ := hq.1 rfl
    refine Br.yes rfl ?_
    conv => whnf
    refine Sm.seq ?_
    refine Sm.block ?_
    obtain ⟨x, hx⟩ : ∃ x, l[2 * k]? = some x := ⟨_, List.getElem?_eq_getElem (by omega)⟩
    obtain ⟨y, hy⟩ : ∃ y, l[2 * k + 1]? = some y := ⟨_, List.getElem?_eq_getElem (by omega)⟩
    have hxr : inR x := hin _ (List.mem_of_getElem? hx)
    have hyr : inR y := hin _ (List.mem_of_getElem? hy)
    have hrow : rowF (l.getD (2 * k) 0) (l.getD (2 * k + 1) 0) = rowF x y := by rw [List.getD_eq_getElem?_getD, List.getD_eq_getElem?_getD, hx, hy]; rfl
    obtain ⟨p, z1, i1, h1, g1, ap, rfl⟩ := index_sl IL Try.underlying3 rfl (hp.slR hv) .i64 (i := 2 * k) (by omega)
    obtain rfl : z1 = .int .i64 x := by simp [hx] at h1; exact h1.symm
    obtain ⟨p, z2, i2, h2, g2, aq, rfl⟩ := index_sl IL Try.underlying3 rfl (hp.slR hv) .i64 (i := 2 * k + 1) (by omega)
    obtain rfl : z2 = .int .i64 y := by simp [hy] at h2; exact h2.symm
    clear h1 h2
    refine Sm.seqW ?_
    conv => whnf
    refine Om.of _ (i1) ?_
    conv => whnf
    refine Om.of _ (g1) ?_
    conv => whnf
    refine (pick_spec _ hxr (by omega) (by omega)).mono ?_
    rintro _ s' ⟨h, rfl⟩
    rw [h]
    clear h s'
    conv => whnf
    refine Sm.live [0, 5, 6, 7, 8, 9] ?_
    conv => whnf
    refine Sm.seqW ?_
    conv => whnf
    refine ⟨[0, 0, 0, 6, 14, 30, 62, 0, 0, 384, 896, 1920, 4094, 0, 0, 24576, 57344, 122880, 262142, 524286, 0, 0, 2097152, 7340032, 15728640, 33030142, 66584574, 0, 0, 268435456, 939524096, 2013265920, 4160749568, 8522301438, 17179344894, 0, 0, 103079215104, 240518168576, 549755813887, 0, 2199023255551], by decide +kernel, by decide +kernel, ?_⟩
    conv => whnf
    refine Om.of _ (i1) ?_
    conv => whnf
    refine Om.of _ (g1) ?_
    conv => whnf
    refine Om.of _ ((quo_int (by omega) hxr).1) ?_
    conv => whnf
    refine (pick_spec _ (quo_int (P := Try.prog) (t := 0) (cst := true) (m := 4) (by omega) hxr).2 (by omega) (by omega)).mono ?_
    rintro _ s' ⟨h, rfl⟩
    rw [h]
    clear h s'
    conv => whnf
    refine hp.dkS ?_
    conv => whnf
    refine Om.of _ (i1) ?_
    conv => whnf
    refine Om.of _ (g1) ?_
    conv => whnf
    refine Om.of _ ((quo_int (by omega) hxr).1) ?_
    conv => whnf
    refine (pick_spec _ (quo_int (P := Try.prog) (t := 0) (cst := true) (m := 64) (by omega) hxr).2 (by omega) (by omega)).mono ?_
    rintro _ s' ⟨h, rfl⟩
    rw [h]
    clear h s'
    conv => whnf
    refine hp.dkS ?_
    conv => whnf
    refine Om.of _ (i1) ?_
    conv => whnf
    refine Om.of _ (g1) ?_
    conv => whnf
    refine Om.of _ ((quo_int (by omega) hxr).1) ?_
    conv => whnf
    refine (pick_spec _ (quo_int (P := Try.prog) (t := 0) (cst := true) (m := 192) (by omega) hxr).2 (by omega) (by omega)).mono ?_
    rintro _ s' ⟨h, rfl⟩
    rw [h]
    clear h s'
    conv => whnf
    refine hp.dkS ?_
    conv => whnf
    rw [e1]
    refine Om.of _ (i2) ?_
    conv => whnf
    refine Om.of _ (g2) ?_
    conv => whnf
    refine (pick_spec _ hyr (by omega) (by omega)).mono ?_
    rintro _ s' ⟨h, rfl⟩
    rw [h]
    clear h s'
    conv => whnf
    refine hp.dkS ?_
    conv => whnf
    rw [e1]
    refine Om.of _ (i2) ?_
    conv => whnf
    refine Om.of _ (g2) ?_
    conv => whnf
    refine Om.of _ ((quo_int (by omega) hyr).1) ?_
    conv => whnf
    refine (pick_spec _ (quo_int (P := Try.prog) (t := 0) (cst := true) (m := 7) (by omega) hyr).2 (by omega) (by omega)).mono ?_
    rintro _ s' ⟨h, rfl⟩
    rw [h]
    clear h s'
    conv => whnf
    refine hp.dkS ?_
    conv => whnf
    have e2 : IntKind.i64.wrap (y % 20001 - 10000) = y % 20001 - 10000 := wi64 (by omega) (by omega)
    have e3 : IntKind.i64.wrap (x.tdiv 192 % 4 - 1) = x.tdiv 192 % 4 - 1 := wi64 (by omega) (by omega)
    rw [e2, e3]
    refine hp.rst.call (rof_spec hp.rst.wf (n := y % 20001 - 10000) (by unfold inR; omega) (y.tdiv 7 % 3)) ?_
    rintro _ s1 rfl h1 k1
    conv => whnf
    refine hp.dkN h1 k1 ?_
    clear hp h1 k1
    intro s hp
    conv => whnf
    obtain ⟨e, he, he4⟩ : ∃ e : Nat, x % 4 = (e : Int) ∧ e < 4 := ⟨(x % 4).toNat, by omega, by omega⟩
    refine Om.of _ ((congrArg (fun z => evIndexAddr Try.prog 25 (.slice (some ⟨bl, 0, none⟩) 4 4) (.int .i64 z)) he).trans (idx_at RLb .i64 he4)) ?_
    conv => whnf
    refine hp.loadA (l := (labE (e : Int)).cells) (by repeat (first | exact Has.here | apply Has.there | (apply Has.swap; repeat (first | exact HasR.here | apply HasR.there)))) rfl (labC_at he4) rfl rfl ?_
    conv => whnf
    rw [← he]
    have hrv : (rowF x y).cells = (rowF x y).cells := rfl
    refine hp.rst.alloc (cs := Rv.cells ⟨0, 0, 0, 0, ⟨false, 0, 0⟩, ⟨0, 0⟩⟩) (e := 10) rfl rfl rfl rfl rfl ?_
    intro p10 s1 h1 k1
    conv => whnf
    refine hp.dkN h1 k1 ?_
    clear hp h1 k1
    intro s hp
    conv => whnf
    refine hp.rst.storeW (vs := (rowF x y).cells) (C := Rv.cells ⟨0, 0, 0, 0, ⟨false, 0, 0⟩, ⟨0, 0⟩⟩) rfl (by repeat (first | exact Rm.here | apply Rm.there)) (by rfl) rfl rfl rfl ?_
    intro s1 h1 l1
    conv => whnf
    refine hp.dkW h1 l1 ?_
    clear hp h1 l1
    intro s hp
    conv => whnf
    have hsn : rvCells (tabN l k) ++ (rowF x y).cells = rvCells (tabN l (k + 1)) := by rw [tabN_succ, rvCells_append, hrow]; simp [rvCells]
    have e6 : IntKind.i64.wrap (((2 * k : Nat) : Int) + 2) = ((2 * (k + 1) : Nat) : Int) := by rw [wi64 (by omega) (by omega)]; push_cast; omega
    generalize rowF x y = r at hp hsn
    refine Sm.live [0, 5, 6, 7, 8, 10] ?_
    conv => whnf
    refine Sm.seqW ?_
    conv => whnf
    refine hp.loadA (l := r.cells) (by repeat (first | exact Has.here | apply Has.there | (apply Has.swap; repeat (first | exact HasR.here | apply HasR.there)))) rfl (by rfl) rfl rfl ?_
    conv => whnf
    refine hp.lit (cs := r.cells) (e := 10) rfl ?_
    clear hp
    intro b8 s hp _
    conv => whnf
    refine hp.app RD Try.underlying24 rfl (κ := κb) (v := vb) (by repeat (first | exact Rm.here | apply Rm.there)) (elems_sl (hp.blkSl (n := 1) (m := (by repeat (first | exact Has.here | apply Has.there | (apply Has.swap; repeat (first | exact HasR.here | apply HasR.there))) : Has (blkA b8 b8 r.cells 10) _ _)) rfl)) rfl rfl (by omega) ?_
    clear hp
    intro v9 κ9 s hp
    conv => whnf
    refine Sm.live [0, 5, 6, 7, 8, 10] ?_
    conv => whnf
    refine Sm.ofW ?_
    conv => whnf
    refine hp.loadA (l := r.cells) (by repeat (first | exact Has.here | apply Has.there | (apply Has.swap; repeat (first | exact HasR.here | apply HasR.there)))) rfl (by rfl) rfl rfl ?_
    conv => whnf
    refine hp.lit (cs := r.cells) (e := 10) rfl ?_
    clear hp
    intro b11 s hp _
    conv => whnf
    refine hp.app RV Try.underlying23 rfl (κ := κa) (v := va) (by repeat (first | exact Rm.here | apply Rm.there)) (elems_sl (hp.blkSl (n := 1) (m := (by repeat (first | exact Has.here | apply Has.there | (apply Has.swap; repeat (first | exact HasR.here | apply HasR.there))) : Has (blkA b11 b11 r.cells 10) _ _)) rfl)) rfl rfl (by omega) ?_
    clear hp
    intro v12 κ12 s hp
    conv => whnf
    refine Sm.ofW ?_
    conv => whnf
    rw [hsn] at hp
    exact ⟨(k + 1, κ12, v12, κ9, v9), by (show 20 - (k + 1) < 20 - k); omega, subK_ok (by refine ⟨rfl, rfl, rfl, rfl, congrArg (fun x => some (Value.int .i64 x)) e6, trivial⟩), by (show 2 * (k + 1) ≤ l.length); omega, by (show k + 1 ≤ 20); omega, hp.pik (by repeat (first | exact Pik.nil | exact Pik.refl _ | exact Rm.here | apply Rm.there | apply Pik.cons | apply Pik.skip))⟩
end
end Go.Ev
end

/- Views: what is seen of rows, sums, functions over slices. No condition. -/
noncomputable section
namespace Go.Ev
open Go.Proofs
variable [Lk]
set_option linter.unusedSectionVars false
set_option linter.unusedVariables false
set_option maxRecDepth 100000

/-- One element of a slice of structs. -/
theorem u_load_agg {P : Program} {t : TypeId} {fs : Array Field} {i : TypeInfo} (hu : P.underlying t = some (.struct fs)) (hi : P.info? t = some i) {s : St} {b off : Nat} {C cs : List Value} (hr : s.rd b = some C) (hs : sl C off i.size = some cs) :
    evLoad P t (.pointer (some ⟨b, off, none⟩)) s = some (.agg cs.toArray) := by
  unfold evLoad
  simp only [hr, hu, hi, hs]
theorem u_sl_sub {C cs : List Value} {off n i m : Nat} (h : Go.Ev.sl C off n = some cs) (hi : i + m ≤ n) : Go.Ev.sl C (off + i) m = some ((cs.drop i).take m) := by
  obtain ⟨g1, g2, g3, _⟩ := sl_some h
  have e : (List.drop (off + i) C).take m = (cs.drop i).take m := by
    rw [g2, List.drop_take, List.drop_drop, List.take_take, Nat.min_eq_left (by omega)]
  have hl : cs.length = n := by rw [g2]; simp; omega
  unfold Go.Ev.sl
  simp only [e]
  have : ((cs.drop i).take m).length = m := by simp; omega
  rw [this]; simp
theorem index_uN {P : Program} {t et sz by_ : Nat} {z : Value} (T : SlT P t et sz by_ z) {fs : Array Field} (hu : P.underlying et = some (.struct fs)) {s : St} {κ : Option Nat} {v : Value} {n i : Nat} {cs : List Value} (h : Sl s κ v sz n cs) (k : IntKind) (hi : i < n) :
    ∃ a, evIndexAddr P t v (.int k (i : Int)) = some (.pointer (some a)) ∧ evLoad P et (.pointer (some a)) s = some (.agg ((cs.drop (i * sz)).take sz).toArray) := by
  obtain ⟨j, hi1, hi2, hi3, hi4⟩ := T.hi
  rcases h.ex with ⟨rfl, rfl, rfl, rfl⟩ | ⟨b, off, c, C, rfl, hc, hl, hs, hm⟩
  · omega
  · have hr : s.rd b = some C := by
      rcases hm with ⟨k, _, hm⟩ | ⟨_, hm⟩
      · exact hm.rd
      · exact hm.rd
    have hle : i * sz + sz ≤ n * sz := by
      have : (i + 1) * sz ≤ n * sz := Nat.mul_le_mul_right _ hi
      rw [Nat.add_mul, Nat.one_mul] at this; exact this
    refine ⟨⟨b, off + i * sz, none⟩, ?_, u_load_agg hu hi1 hr (by rw [hi2]; exact u_sl_sub hs hle)⟩
    show (match P.underlying t, Value.slice (some ⟨b, off, none⟩) n c, Value.int k (.ofNat i) with
        | some (.slice e), .slice (some a) n _, .int _ (.ofNat i) => match Nat.blt i n, P.info? e with
          | true, some j => some (Value.pointer (some ⟨a.block, a.off + i * j.size, none⟩))
          | _, _ => none
        | some (.array n e), .pointer (some a), .int _ (.ofNat i) => match Nat.blt i n, P.info? e with
          | true, some j => some (Value.pointer (some ⟨a.block, a.off + i * j.size, none⟩))
          | _, _ => none
        | _, _, _ => none) = _
    rw [T.hu]
    simp only [blt_of hi, hi1, hi2]
theorem index_rv {s : St} {κ : Option Nat} {v : Value} {l : List Rv} (h : Sl s κ v 10 l.length (rvCells l)) (k : IntKind) {i : Nat} (hi : i < l.length) :
    ∃ a, evIndexAddr Try.prog 23 v (.int k (i : Int)) = some (.pointer (some a)) ∧ evLoad Try.prog 38 (.pointer (some a)) s = some l[i].val := by
  obtain ⟨a, e1, e2⟩ := index_uN RV Try.underlying38 h k hi
  rw [rv_at hi] at e2
  exact ⟨a, e1, e2⟩
theorem seesF_snoc (rows : List Rv) (c : Lb) {i : Nat} (hi : i < rows.length) : seesF (rows.take (i + 1)) c = seesF (rows.take i) c ++ (if belowF rows[i].l c = true then [rows[i]] else []) := by
  unfold seesF
  rw [List.take_succ_eq_append_getElem hi, List.filter_append]
  congr 1
  simp only [List.filter_cons, List.filter_nil]
theorem sees_spec {z : St} (wf : WF z) {κ : Option Nat} {v : Value} {rows : List Rv} (hv : Sl z κ v 10 rows.length (rvCells rows)) (hr : ∀ r ∈ rows, r.l.ok) (hn : rows.length ≤ 100) {c : Lb} (hc : c.ok) :
    Cw Try.prog 7 [v, c.val] z fun r s' => K0 z s' ∧ OwnN z.next s' r 10 (seesF rows c).length (rvCells (seesF rows c)) := by
  have hp : Hp (fun _ => False) z [slA κ v 10 rows.length (rvCells rows)] [] z := Hp.start _ wf _ (by simp; exact hv)
  obtain ⟨a, cp, rfl⟩ := hv.shape
  refine Cw.enterS Try.func7 rfl rfl ?_
  refine Sm.seqW ?_
  conv => whnf
  refine hp.var (cs := c.cells) (e := 2) rfl rfl ?_
  clear hp
  intro p3 s hp _
  conv => whnf
  refine Sm.live [0, 3] ?_
  conv => whnf
  refine Sm.seqW ?_
  conv => whnf
  refine Sm.live [0, 3, 5] ?_
  conv => whnf
  refine Sm.seq ?_
  refine Sm.seqW ?_
  conv => whnf
  refine Sm.live [3, 5, 8, 9, 10] ?_
  conv => whnf
  refine Sm.block ?_
  refine Sm.loop ?_
  refine Lp.ofS (α := Nat × Option Nat × Value) (fun x => [(3, .pointer (some ⟨p3, 0, none⟩)), (5, x.2.2), (8, .slice a rows.length cp), (9, .int .i64 (rows.length : Int)), (10, .int .i64 (x.1 : Int))])
    (fun x s' => x.1 ≤ rows.length ∧ Hp (fun _ => False) z [slA κ (.slice a rows.length cp) 10 rows.length (rvCells rows)] [onA x.2.1 x.2.2 10 (seesF (rows.take x.1) c).length (rvCells (seesF (rows.take x.1) c)), blkA p3 p3 c.cells 2] s')
    (fun x => rows.length - x.1) ?_ (0, none, .slice none 0 0) (subK_ok (by refine ⟨rfl, rfl, rfl, rfl, rfl, trivial⟩)) ⟨Nat.zero_le _, hp.push (a := onA none (.slice none 0 0) 10 0 []) (.refl hp.wf) ⟨.inl ⟨rfl, rfl, rfl, rfl⟩⟩ fun j hj => by cases hj⟩
  clear hp
  rintro ⟨i, κo, vo⟩ s ⟨hi, hp⟩
  simp only at hi hp
  refine Sm.seqW ?_
  conv => whnf
  refine Sm.seq ?_
  refine Sm.ofW ?_
  conv => whnf
  refine Br.mk (fun hq => ?_) (fun hq => ?_)
  · have hi2 : i < rows.length := by have := of_decide_eq_true hq; omega
    have e6 : IntKind.i64.wrap ((i : Int) + 1) = ((i + 1 : Nat) : Int) := by rw [wi64 (by omega) (by omega)]; omega
    have hsn := seesF_snoc rows c hi2
    have hfl : (seesF (rows.take i) c).length ≤ i := by
      have := List.length_filter_le (fun r : Rv => belowF r.l c) (rows.take i)
      unfold seesF
      have h2 : (rows.take i).length ≤ i := by simp; omega
      omega
    conv => whnf
    refine Sm.seq ?_
    refine Sm.block ?_
    refine Sm.seqW ?_
    conv => whnf
    obtain ⟨p, e1, e2⟩ := index_rv (hp.slR .here) .i64 hi2
    refine Om.of _ (e1) ?_
    conv => whnf
    refine Om.of _ (e2) ?_
    conv => whnf
    have hrl := hr _ (List.getElem_mem hi2)
    generalize rows[i] = r at hsn hrl
    clear e1 e2
    refine hp.alloc (cs := Rv.cells ⟨0, 0, 0, 0, ⟨false, 0, 0⟩, ⟨0, 0⟩⟩) (e := 10) rfl rfl rfl rfl rfl ?_
    clear hp
    intro p7 s hp _
    conv => whnf
    refine hp.storeW (vs := r.cells) (C := Rv.cells ⟨0, 0, 0, 0, ⟨false, 0, 0⟩, ⟨0, 0⟩⟩) rfl (by repeat (first | exact Rm.here | apply Rm.there)) (by rfl) rfl rfl rfl ?_
    clear hp
    intro s hp _
    conv => whnf
    refine Sm.live [3, 5, 7, 8, 9, 10] ?_
    conv => whnf
    refine Sm.seqW ?_
    conv => whnf
    refine hp.loadA (l := r.l.cells) (by repeat (first | exact Has.here | apply Has.there | (apply Has.swap; repeat (first | exact HasR.here | apply HasR.there)))) rfl (by rfl) rfl rfl ?_
    conv => whnf
    refine hp.loadA (l := c.cells) (by repeat (first | exact Has.here | apply Has.there | (apply Has.swap; repeat (first | exact HasR.here | apply HasR.there)))) rfl (by rfl) rfl rfl ?_
    conv => whnf
    refine hp.call (below_spec hp.wf hrl hc) ?_
    clear hp
    rintro _ s rfl hp _
    conv => whnf
    refine Sm.ofW ?_
    conv => whnf
    cases hb : belowF r.l c with
    | true =>
      rw [if_pos hb] at hsn
      refine Br.yes rfl ?_
      conv => whnf
      refine hp.loadA (l := r.cells) (by repeat (first | exact Has.here | apply Has.there | (apply Has.swap; repeat (first | exact HasR.here | apply HasR.there)))) rfl (by rfl) rfl rfl ?_
      conv => whnf
      refine hp.lit (cs := r.cells) (e := 10) rfl ?_
      clear hp
      intro b8 s hp _
      conv => whnf
      refine hp.app RV Try.underlying23 rfl (κ := κo) (v := vo) (by repeat (first | exact Rm.here | apply Rm.there)) (elems_sl (hp.blkSl (n := 1) (m := (by repeat (first | exact Has.here | apply Has.there | (apply Has.swap; repeat (first | exact HasR.here | apply HasR.there))) : Has (blkA b8 b8 r.cells 10) _ _)) rfl)) rfl rfl (by omega) ?_
      clear hp
      intro v9 κ9 s hp
      conv => whnf
      refine Sm.ofW ?_
      conv => whnf
      have hq2 : rvCells (seesF (rows.take i) c) ++ r.cells = rvCells (seesF (rows.take (i + 1)) c) := by rw [hsn, rvCells_append]; simp [rvCells]
      have hq3 : (seesF (rows.take i) c).length + 1 = (seesF (rows.take (i + 1)) c).length := by rw [hsn]; simp
      rw [hq2, hq3] at hp
      exact ⟨(i + 1, κ9, v9), by (show rows.length - (i + 1) < rows.length - i); omega, subK_ok (by refine ⟨rfl, rfl, rfl, rfl, congrArg (fun x => some (Value.int .i64 x)) e6, trivial⟩), hi2, hp.pik (by repeat (first | exact Pik.nil | exact Pik.refl _ | exact Rm.here | apply Rm.there | apply Pik.cons | apply Pik.skip))⟩
    | false =>
      rw [if_neg (by rw [hb]; decide), List.append_nil] at hsn
      refine Br.no rfl ?_
      conv => whnf
      refine Sm.ofW ?_
      conv => whnf
      rw [← hsn] at hp
      exact ⟨(i + 1, κo, vo), by (show rows.length - (i + 1) < rows.length - i); omega, subK_ok (by refine ⟨rfl, rfl, rfl, rfl, congrArg (fun x => some (Value.int .i64 x)) e6, trivial⟩), hi2, hp.pik (by repeat (first | exact Pik.nil | exact Pik.refl _ | exact Rm.here | apply Rm.there | apply Pik.cons | apply Pik.skip))⟩
  · have hi2 : i = rows.length := by have := of_decide_eq_false hq; omega
    subst hi2
    rw [List.take_of_length_le (Nat.le_refl _)] at hp
    conv => whnf
    refine Sm.seqW ?_
    conv => whnf
    refine Sm.ofW ?_
    conv => whnf
    exact ⟨hp.fr, hp.out .here⟩
theorem sumP_take (rows : List Rv) {i : Nat} (hi : i < rows.length) : sumP (rows.take (i + 1)) = addP (sumP (rows.take i)) rows[i].pr := by rw [List.take_succ_eq_append_getElem hi, sumP_snoc]
theorem joinL_take (rows : List Rv) {i : Nat} (hi : i < rows.length) : joinL (rows.take (i + 1)) = joinF (joinL (rows.take i)) rows[i].l := by rw [List.take_succ_eq_append_getElem hi, joinL_snoc]
theorem mkD_cu {x S : Int} (h : x.natAbs ≤ 1000000000) : (mkD x S).c < w128 := by
  unfold mkD w128
  simp only
  omega
theorem sum_spec {z : St} (wf : WF z) {κ : Option Nat} {v : Value} {rows : List Rv} (hv : Sl z κ v 10 rows.length (rvCells rows)) (hr : ∀ r ∈ rows, r.ok) (hn : rows.length ≤ 100) (key : Int) :
    Cw Try.prog 33 [v, .int .i64 key] z fun r s' => K0 z s' ∧ r = .tuple #[(Ov.mk key (mkD (sumP rows).1 (sumP rows).2) (joinL rows)).val, .int .i64 0] := by
  have hp : Hp (fun _ => False) z [slA κ v 10 rows.length (rvCells rows)] [] z := Hp.start _ wf _ (by simp; exact hv)
  obtain ⟨a, cp, rfl⟩ := hv.shape
  refine Cw.enterS Try.func33 rfl rfl ?_
  refine Sm.seqW ?_
  conv => whnf
  refine hp.alloc (cs := Ov.zero.cells) (e := 7) rfl rfl rfl rfl rfl ?_
  clear hp
  intro p4 s hp _
  conv => whnf
  refine Sm.live [0, 1, 4] ?_
  conv => whnf
  refine Sm.seqW ?_
  conv => whnf
  refine hp.alloc (cs := Ov.zero.cells) (e := 7) rfl rfl rfl rfl rfl ?_
  clear hp
  intro p6 s hp _
  conv => whnf
  refine hp.storeW (vs := (Ov.mk key ⟨false, 0, 0⟩ ⟨0, 0⟩).cells) (C := Ov.zero.cells) (by simp [putAt, Ov.cells, Value.cells]) (by repeat (first | exact Rm.here | apply Rm.there)) (by rfl) rfl rfl rfl ?_
  clear hp
  intro s hp _
  conv => whnf
  refine Sm.live [0, 4, 6] ?_
  conv => whnf
  refine Sm.seq ?_
  refine Sm.seqW ?_
  conv => whnf
  refine Sm.live [4, 6, 12, 13, 14] ?_
  conv => whnf
  refine Sm.block ?_
  refine Sm.loop ?_
  have h0 : Ov.mk key (mkD (sumP (rows.take 0)).1 (sumP (rows.take 0)).2) (joinL (rows.take 0)) = Ov.mk key ⟨false, 0, 0⟩ ⟨0, 0⟩ := by rw [List.take_zero]; rfl
  refine Lp.ofS (α := Nat) (fun x => [(4, .pointer (some ⟨p4, 0, none⟩)), (6, .pointer (some ⟨p6, 0, none⟩)), (12, .slice a rows.length cp), (13, .int .i64 (rows.length : Int)), (14, .int .i64 (x : Int))])
    (fun x s' => x ≤ rows.length ∧ Hp (fun _ => False) z [slA κ (.slice a rows.length cp) 10 rows.length (rvCells rows)] [blkA p6 p6 (Ov.mk key (mkD (sumP (rows.take x)).1 (sumP (rows.take x)).2) (joinL (rows.take x))).cells 7, blkA p4 p4 Ov.zero.cells 7] s')
    (fun x => rows.length - x) ?_ 0 (subK_ok (by refine ⟨rfl, rfl, rfl, rfl, rfl, trivial⟩)) ⟨Nat.zero_le _, by rw [h0]; exact hp.pik (by repeat (first | exact Pik.nil | exact Pik.refl _ | exact Rm.here | apply Rm.there | apply Pik.cons | apply Pik.skip))⟩
  clear hp h0
  rintro i s ⟨hi, hp⟩
  refine Sm.seqW ?_
  conv => whnf
  refine Sm.seq ?_
  refine Sm.ofW ?_
  conv => whnf
  refine Br.mk (fun hq => ?_) (fun hq => ?_)
  · have hi2 : i < rows.length := by have := of_decide_eq_true hq; omega
    have e6 : IntKind.i64.wrap ((i : Int) + 1) = ((i + 1 : Nat) : Int) := by rw [wi64 (by omega) (by omega)]; omega
    have h1 := sumP_take rows hi2
    have h2 := joinL_take rows hi2
    have hro := hr _ (List.getElem_mem hi2)
    obtain ⟨b1, b2, b3⟩ := sumP_lim (l := rows.take i) (fun x hx => hr x (List.mem_of_mem_take hx)) (by simp; omega)
    have hjs := joinL_sm (l := rows.take i) (fun x hx => (hr x (List.mem_of_mem_take hx)).l)
    conv => whnf
    refine Sm.seq ?_
    refine Sm.block ?_
    refine Sm.seqW ?_
    conv => whnf
    obtain ⟨p, e1, e2⟩ := index_rv (hp.slR .here) .i64 hi2
    refine Om.of _ (e1) ?_
    conv => whnf
    refine Om.of _ (e2) ?_
    conv => whnf
    generalize rows[i] = r at h1 h2 hro
    clear e1 e2
    obtain ⟨q1, q2, q3, q4⟩ := pr_ok hro
    refine hp.alloc (cs := Rv.cells ⟨0, 0, 0, 0, ⟨false, 0, 0⟩, ⟨0, 0⟩⟩) (e := 10) rfl rfl rfl rfl rfl ?_
    clear hp
    intro p7 s hp _
    conv => whnf
    refine hp.storeW (vs := r.cells) (C := Rv.cells ⟨0, 0, 0, 0, ⟨false, 0, 0⟩, ⟨0, 0⟩⟩) rfl (by repeat (first | exact Rm.here | apply Rm.there)) (by rfl) rfl rfl rfl ?_
    clear hp
    intro s hp _
    conv => whnf
    generalize sumP (rows.take i) = P at h1 b1 b2 b3 hp
    generalize joinL (rows.take i) = J at h2 hjs hp
    refine Sm.live [4, 6, 8, 12, 13, 14] ?_
    conv => whnf
    refine Sm.seqW ?_
    conv => whnf
    refine Sm.live [4, 6, 8, 12, 13, 14] ?_
    conv => whnf
    refine Sm.seq ?_
    refine Sm.seqW ?_
    conv => whnf
    refine hp.loadA (l := (mkD P.1 P.2).cells) (by repeat (first | exact Has.here | apply Has.there | (apply Has.swap; repeat (first | exact HasR.here | apply HasR.there)))) rfl (by rfl) rfl rfl ?_
    conv => whnf
    refine hp.loadA (l := r.am.cells) (by repeat (first | exact Has.here | apply Has.there | (apply Has.swap; repeat (first | exact HasR.here | apply HasR.there)))) rfl (by rfl) rfl rfl ?_
    conv => whnf
    have hadd := addF_P b1 (by omega : r.pr.1.natAbs ≤ 1000000000) b2 b3 q3 q4
    rw [← q1] at hadd
    refine hp.call (decAdd_spec hp.wf (mkD P.1 P.2) r.am (mkD_cu b1) (by rw [q1]; exact mkD_cu (by omega))) ?_
    clear hp
    rw [hadd, ← h1]
    rintro _ s rfl hp _
    conv => whnf
    generalize hP' : sumP (rows.take (i + 1)) = P' at h1
    have hpa1 : ∀ d : Dc, putAt (Ov.mk key (mkD P.1 P.2) J).cells 1 d.cells = (Ov.mk key d J).cells := fun d => by simp [putAt, Ov.cells, Dc.cells]
    have hpa2 : ∀ j : Lb, putAt (Ov.mk key (mkD P'.1 P'.2) J).cells 5 j.cells = (Ov.mk key (mkD P'.1 P'.2) j).cells := fun j => by simp [putAt, Ov.cells]
    refine hp.storeA (off := 1) (vs := (mkD P'.1 P'.2).cells) rfl (by repeat (first | exact Rm.here | apply Rm.there)) (Nat.le_of_ble_eq_true rfl) rfl rfl rfl ?_
    clear hp
    intro s hp _
    rw [hpa1] at hp
    conv => whnf
    refine Sm.live [4, 6, 8, 9, 12, 13, 14] ?_
    conv => whnf
    refine Sm.seqW ?_
    conv => whnf
    refine Sm.ofW ?_
    conv => whnf
    refine Br.no rfl ?_
    conv => whnf
    refine Sm.ofW ?_
    conv => whnf
    refine hp.loadA (l := J.cells) (by repeat (first | exact Has.here | apply Has.there | (apply Has.swap; repeat (first | exact HasR.here | apply HasR.there)))) rfl (by rfl) rfl rfl ?_
    conv => whnf
    refine hp.loadA (l := r.l.cells) (by repeat (first | exact Has.here | apply Has.there | (apply Has.swap; repeat (first | exact HasR.here | apply HasR.there)))) rfl (by rfl) rfl rfl ?_
    conv => whnf
    refine hp.call (join_spec hp.wf hjs.ok hro.l.ok) ?_
    clear hp
    rintro _ s rfl hp _
    conv => whnf
    rw [← h2]
    refine hp.storeA (off := 5) (vs := (joinL (rows.take (i + 1))).cells) rfl (by repeat (first | exact Rm.here | apply Rm.there)) (Nat.le_of_ble_eq_true rfl) rfl rfl rfl ?_
    clear hp
    intro s hp _
    rw [hpa2] at hp
    conv => whnf
    refine Sm.ofW ?_
    conv => whnf
    rw [← hP'] at hp
    exact ⟨i + 1, by (show rows.length - (i + 1) < rows.length - i); omega, subK_ok (by refine ⟨rfl, rfl, rfl, rfl, congrArg (fun x => some (Value.int .i64 x)) e6, trivial⟩), hi2, hp.pik (by repeat (first | exact Pik.nil | exact Pik.refl _ | exact Rm.here | apply Rm.there | apply Pik.cons | apply Pik.skip))⟩
  · have hi2 : i = rows.length := by have := of_decide_eq_false hq; omega
    subst hi2
    rw [List.take_of_length_le (Nat.le_refl _)] at hp
    conv => whnf
    refine Sm.seqW ?_
    conv => whnf
    refine hp.loadA (l := (Ov.mk key (mkD (sumP rows).1 (sumP rows).2) (joinL rows)).cells) (by repeat (first | exact Has.here | apply Has.there | (apply Has.swap; repeat (first | exact HasR.here | apply HasR.there)))) rfl (by rfl) rfl rfl ?_
    conv => whnf
    refine hp.storeW (vs := (Ov.mk key (mkD (sumP rows).1 (sumP rows).2) (joinL rows)).cells) (C := Ov.zero.cells) rfl (by repeat (first | exact Rm.here | apply Rm.there)) (by rfl) rfl rfl rfl ?_
    clear hp
    intro s hp _
    conv => whnf
    refine Sm.ofW ?_
    conv => whnf
    refine hp.loadA (l := (Ov.mk key (mkD (sumP rows).1 (sumP rows).2) (joinL rows)).cells) (by repeat (first | exact Has.here | apply Has.there | (apply Has.swap; repeat (first | exact HasR.here | apply HasR.there)))) rfl (by rfl) rfl rfl ?_
    conv => whnf
    exact ⟨hp.fr, rfl⟩
end Go.Ev
end

/- Views: a query of all rows, or of their sum. No condition. -/
noncomputable section
namespace Go.Ev
open Go.Proofs
variable [Lk]
set_option linter.unusedSectionVars false
set_option linter.unusedVariables false
set_option maxRecDepth 100000

theorem Hp.blkOnU {X : Nat → Prop} {s0 s : St} {R F G : List At} {k b e n : Nat} {C : List Value} (h : Hp X s0 R F s) (r : Rm (blkA k b C e) F G) (hl : C.length = n * e) : Hp X s0 R (onA (some k) (.slice (some ⟨b, 0, none⟩) n n) e n C :: G) s :=
  h.as r (fun hb => ⟨.inr ⟨k, rfl, b, rfl, hb, hl⟩⟩) fun j hj => by (injection hj with hj); exact hj.symm
/-- Where no row is to go. -/
theorem indexf_spec {z : St} (wf : WF z) {κ : Option Nat} {v : Value} {rows : List Rv} (hv : Sl z κ v 10 rows.length (rvCells rows)) (hn : rows.length ≤ 100) {g : Nat} {us vs : Array Value}
    (hf : ∀ {s : St}, K0 z s → ∀ r ∈ rows, Cw Try.prog g (us.toList ++ [r.val] ++ vs.toList) s fun v s' => K0 s s' ∧ v = .bool false) :
    Cw Try.prog 31 [v, .func (.func g) us vs] z fun r s' => K0 z s' ∧ r = .int .i64 (-1) := by
  have hp : Hp (fun _ => False) z [slA κ v 10 rows.length (rvCells rows)] [] z := Hp.start _ wf _ (by simp; exact hv)
  obtain ⟨a, cp, rfl⟩ := hv.shape
  refine Cw.enterS Try.func31 rfl rfl ?_
  refine Sm.seqW ?_
  conv => whnf
  refine Sm.seq ?_
  refine Sm.seqW ?_
  conv => whnf
  refine Sm.live [0, 1, 7, 8] ?_
  conv => whnf
  refine Sm.block ?_
  refine Sm.loop ?_
  refine Lp.ofS (α := Nat) (fun x => [(0, .slice a rows.length cp), (1, .func (.func g) us vs), (7, .int .i64 (rows.length : Int)), (8, .int .i64 (x : Int))])
    (fun x s' => x ≤ rows.length ∧ Hp (fun _ => False) z [slA κ (.slice a rows.length cp) 10 rows.length (rvCells rows)] [] s')
    (fun x => rows.length - x) ?_ 0 (subK_ok (by refine ⟨rfl, rfl, rfl, rfl, trivial⟩)) ⟨Nat.zero_le _, hp⟩
  clear hp
  rintro i s ⟨hi, hp⟩
  refine Sm.seqW ?_
  conv => whnf
  refine Sm.seq ?_
  refine Sm.ofW ?_
  conv => whnf
  refine Br.mk (fun hq => ?_) (fun hq => ?_)
  · have hi2 : i < rows.length := by have := of_decide_eq_true hq; omega
    have e6 : IntKind.i64.wrap ((i : Int) + 1) = ((i + 1 : Nat) : Int) := by rw [wi64 (by omega) (by omega)]; omega
    conv => whnf
    refine Sm.seq ?_
    refine Sm.block ?_
    refine Sm.seqW ?_
    conv => whnf
    refine Sm.live [0, 1, 5, 7, 8] ?_
    conv => whnf
    refine Sm.seqW ?_
    conv => whnf
    obtain ⟨p, e1, e2⟩ := index_rv (hp.slR .here) .i64 hi2
    refine Om.of _ (e1) ?_
    conv => whnf
    refine Om.of _ (e2) ?_
    conv => whnf
    refine hp.call (hf hp.fr rows[i] (List.getElem_mem hi2)) ?_
    clear hp
    rintro _ s rfl hp _
    conv => whnf
    refine Sm.ofW ?_
    conv => whnf
    refine Br.no rfl ?_
    conv => whnf
    refine Sm.ofW ?_
    conv => whnf
    exact ⟨i + 1, by (show rows.length - (i + 1) < rows.length - i); omega, subK_ok (by refine ⟨rfl, rfl, rfl, congrArg (fun x => some (Value.int .i64 x)) e6, trivial⟩), hi2, hp⟩
  · conv => whnf
    refine Sm.seqW ?_
    conv => whnf
    refine Sm.ofW ?_
    conv => whnf
    exact ⟨hp.fr, rfl⟩
theorem deletef_spec {z : St} (wf : WF z) {κ : Option Nat} {v : Value} {rows : List Rv} (hv : Sl z κ v 10 rows.length (rvCells rows)) (hn : rows.length ≤ 100) {g : Nat} {us vs : Array Value}
    (hf : ∀ {s : St}, K0 z s → ∀ r ∈ rows, Cw Try.prog g (us.toList ++ [r.val] ++ vs.toList) s fun v s' => K0 s s' ∧ v = .bool false) :
    Cw Try.prog 13 [v, .func (.func g) us vs] z fun r s' => K0 z s' ∧ r = v := by
  have hp : Hp (fun _ => False) z [slA κ v 10 rows.length (rvCells rows)] [] z := Hp.start _ wf _ (by simp; exact hv)
  obtain ⟨a, cp, rfl⟩ := hv.shape
  refine Cw.enterS Try.func13 rfl rfl ?_
  refine Sm.seqW ?_
  conv => whnf
  refine Sm.seqW ?_
  conv => whnf
  refine hp.call (indexf_spec wf hv hn hf) ?_
  clear hp
  rintro _ s rfl hp _
  conv => whnf
  refine Sm.live [0, 1, 5] ?_
  conv => whnf
  refine Sm.seq ?_
  refine Sm.seqW ?_
  conv => whnf
  refine Sm.ofW ?_
  conv => whnf
  refine Br.yes rfl ?_
  conv => whnf
  exact ⟨hp.fr, rfl⟩
theorem ovclone_spec {s : St} (wf : WF s) {κ : Option Nat} {v : Value} {l : List Ov} (h : Sl s κ v 7 l.length (ovCells l)) (hl : l.length ≤ 100000) :
    Cw Try.prog 21 [v] s fun r s' => K0 s s' ∧ OwnN s.next s' r 7 l.length (ovCells l) := by
  refine Cw.enter Try.func21 rfl rfl ?_
  rcases h.ex with ⟨rfl, h1, h2, rfl⟩ | ⟨b, off, c, C, rfl, hc, hlen, hs, hm⟩
  · conv => whnf
    refine Om.of (.bool true) rfl ?_
    conv => whnf
    refine Br.yes rfl ?_
    conv => whnf
    exact ⟨⟨Kp.refl wf, ⟨.inl ⟨rfl, h1, h2⟩⟩⟩⟩
  · conv => whnf
    refine Om.of (.bool false) rfl ?_
    conv => whnf
    refine Br.no rfl ?_
    conv => whnf
    obtain ⟨v1, s1, e1, o1, k1⟩ := buildSlice0 RO7 wf
    refine Om.of (v1, s1) e1 ?_
    conv => whnf
    obtain ⟨v2, s2, e2, o2, k2⟩ := append_own RO7 Try.underlying40 rfl k1.wf o1 (elems_sl (h.keep0 k1)) (ovCells_length l) (ovCells_one l) (by omega)
    refine Om.of (v2, s2) e2 ?_
    conv => whnf
    rw [Nat.zero_add, List.nil_append] at o2
    exact ⟨⟨k1.trans k2 fun j hj => .inr (by omega), o2.n k2.wf (Nat.le_refl _)⟩⟩
theorem ovclip_spec {s : St} {m : Nat} {v : Value} {l : List Ov} (h : OwnN m s v 7 l.length (ovCells l)) :
    Cw Try.prog 20 [v] s fun r s' => s' = s ∧ r = v := by
  obtain ⟨a, c, rfl⟩ := h.shape
  refine Cw.enter Try.func20 rfl rfl ?_
  conv => whnf
  refine Om.of _ (clip_ownN RO7 h .i64 .i64) ?_
  conv => whnf
  exact ⟨⟨rfl, rfl⟩⟩
/-- A query of all rows, or of their sum. -/
def qCells (sum : Bool) : List Value := [.slice none 0 0, .int .i64 (-1), .int .i64 0, .bool sum, .bool false, .int .i64 0]
def qVal (sum : Bool) : Value := .agg #[.slice none 0 0, .int .i64 (-1), .int .i64 0, .bool sum, .bool false, .int .i64 0]
theorem holds_all {z : St} (wf : WF z) (sum : Bool) (r : Rv) : Cw Try.prog 15 [qVal sum, r.val] z fun v s' => K0 z s' ∧ v = .bool true := by
  have hp : Hp (fun _ => False) z [] [] z := Hp.start _ wf _ (by simp)
  refine Cw.enterS Try.func15 rfl rfl ?_
  refine Sm.seqW ?_
  conv => whnf
  refine hp.var (cs := qCells sum) (e := 6) rfl rfl ?_
  clear hp
  intro p2 s hp _
  conv => whnf
  refine hp.var (cs := r.cells) (e := 10) rfl rfl ?_
  clear hp
  intro p3 s hp _
  conv => whnf
  refine Sm.live [2, 3] ?_
  conv => whnf
  refine Sm.seq ?_
  refine Sm.seqW ?_
  conv => whnf
  (refine hp.load (by repeat (first | exact Has.here | apply Has.there | (apply Has.swap; repeat (first | exact HasR.here | apply HasR.there)))) (by rfl) rfl rfl rfl ?_; conv => whnf)
  refine Sm.ofW ?_
  conv => whnf
  refine Br.yes rfl ?_
  conv => whnf
  exact ⟨hp.fr, rfl⟩
theorem run1_all {z : St} (wf : WF z) {p : Nat} {sum : Bool} (hb : Blk z p p (qCells sum) 6) (r : Rv) : Cw Try.prog 14 [r.val, .pointer (some ⟨p, 0, none⟩)] z fun v s' => K0 z s' ∧ v = .bool false := by
  have hp : Hp (fun _ => False) z [blkA p p (qCells sum) 6] [] z := Hp.start _ wf _ (by simp; exact hb)
  refine Cw.enterS Try.func14 rfl rfl ?_
  refine Sm.seqW ?_
  conv => whnf
  refine hp.var (cs := r.cells) (e := 10) rfl rfl ?_
  clear hp
  intro p2 s hp _
  conv => whnf
  refine Sm.live [1, 2] ?_
  conv => whnf
  refine Sm.seqW ?_
  conv => whnf
  refine hp.loadA (l := qCells sum) (by repeat (first | exact Has.here | apply Has.there | (apply Has.swap; repeat (first | exact HasR.here | apply HasR.there)))) rfl (by rfl) rfl rfl ?_
  conv => whnf
  refine hp.loadA (l := r.cells) (by repeat (first | exact Has.here | apply Has.there | (apply Has.swap; repeat (first | exact HasR.here | apply HasR.there)))) rfl (by rfl) rfl rfl ?_
  conv => whnf
  refine hp.call (holds_all hp.wf sum r) ?_
  clear hp
  rintro _ s rfl hp _
  conv => whnf
  refine Sm.ofW ?_
  conv => whnf
  exact ⟨hp.fr, rfl⟩
theorem summed_spec {z : St} (wf : WF z) {κ : Option Nat} {v : Value} {rows : List Rv} (hv : Sl z κ v 10 rows.length (rvCells rows)) (hr : ∀ r ∈ rows, r.ok) (hn : rows.length ≤ 100) :
    Cw Try.prog 16 [v, .int .i64 0] z fun r s' => K0 z s' ∧ ∃ w, r = .tuple #[w, .int .i64 0] ∧ OwnN z.next s' w 7 1 (ovCells [⟨0, mkD (sumP rows).1 (sumP rows).2, joinL rows⟩]) := by
  have hp : Hp (fun _ => False) z [slA κ v 10 rows.length (rvCells rows)] [] z := Hp.start _ wf _ (by simp; exact hv)
  obtain ⟨a, cp, rfl⟩ := hv.shape
  refine Cw.enterS Try.func16 rfl rfl ?_
  refine Sm.seqW ?_
  conv => whnf
  refine Sm.seq ?_
  refine Sm.seqW ?_
  conv => whnf
  repeat (first | (refine Br.yes (by first | with_reducible rfl | with_reducible exact beq_self_eq_true _ | rfl) ?_; conv => whnf) | (refine Br.no (by first | with_reducible rfl | with_reducible exact bne_self_eq_false _ | rfl) ?_; conv => whnf))
  refine Sm.ofW ?_
  conv => whnf
  repeat (first | (refine Br.yes (by first | with_reducible rfl | with_reducible exact beq_self_eq_true _ | rfl) ?_; conv => whnf) | (refine Br.no (by first | with_reducible rfl | with_reducible exact bne_self_eq_false _ | rfl) ?_; conv => whnf))
  refine hp.call (sum_spec wf hv hr hn 0) ?_
  clear hp
  rintro _ s rfl hp _
  generalize hO : (⟨0, mkD (sumP rows).1 (sumP rows).2, joinL rows⟩ : Ov) = o at hp ⊢
  conv => whnf
  refine hp.alloc (cs := Ov.zero.cells) (e := 7) rfl rfl rfl rfl rfl ?_
  clear hp
  intro p6 s hp _
  conv => whnf
  refine hp.storeW (vs := o.cells) (C := Ov.zero.cells) rfl (by repeat (first | exact Rm.here | apply Rm.there)) (by rfl) rfl rfl rfl ?_
  clear hp
  intro s hp _
  conv => whnf
  repeat (first | (refine Br.yes (by first | with_reducible rfl | with_reducible exact beq_self_eq_true _ | rfl) ?_; conv => whnf) | (refine Br.no (by first | with_reducible rfl | with_reducible exact bne_self_eq_false _ | rfl) ?_; conv => whnf))
  refine hp.loadA (l := o.cells) (by repeat (first | exact Has.here | apply Has.there | (apply Has.swap; repeat (first | exact HasR.here | apply HasR.there)))) rfl (by rfl) rfl rfl ?_
  conv => whnf
  refine hp.lit (cs := o.cells) (e := 7) rfl ?_
  clear hp
  intro b8 s hp _
  conv => whnf
  replace hp := hp.blkOnU (n := 1) .here rfl
  exact ⟨hp.fr, _, rfl, hp.out .here⟩
def outF (sum : Bool) (rows : List Rv) : List Ov := if sum = true then [⟨0, mkD (sumP rows).1 (sumP rows).2, joinL rows⟩] else rows.map fun r => ⟨r.ac, r.am, r.l⟩
theorem vrun_spec {z : St} (wf : WF z) {κ : Option Nat} {v : Value} {rows : List Rv} (hv : Sl z κ v 10 rows.length (rvCells rows)) (hr : ∀ r ∈ rows, r.ok) (hn : rows.length ≤ 100) {c : Lb} (hc : c.ok) (sum : Bool) :
    Cw Try.prog 9 [qVal sum, v, c.val] z fun r s' => K0 z s' ∧ ∃ w, r = .tuple #[w, .int .i64 0] ∧ OwnN z.next s' w 7 (outF sum (seesF rows c)).length (ovCells (outF sum (seesF rows c))) := by
  have hp : Hp (fun _ => False) z [slA κ v 10 rows.length (rvCells rows)] [] z := Hp.start _ wf _ (by simp; exact hv)
  obtain ⟨a, cp, rfl⟩ := hv.shape
  refine Cw.enterS Try.func9 rfl rfl ?_
  refine Sm.seqW ?_
  conv => whnf
  refine hp.var (cs := qCells sum) (e := 6) rfl rfl ?_
  clear hp
  intro p3 s hp _
  conv => whnf
  refine hp.var (cs := c.cells) (e := 2) rfl rfl ?_
  clear hp
  intro p5 s hp _
  conv => whnf
  refine Sm.live [1, 3, 5] ?_
  conv => whnf
  refine Sm.seqW ?_
  conv => whnf
  refine hp.loadA (l := c.cells) (by repeat (first | exact Has.here | apply Has.there | (apply Has.swap; repeat (first | exact HasR.here | apply HasR.there)))) rfl (by rfl) rfl rfl ?_
  conv => whnf
  refine hp.callO (sees_spec hp.wf (hp.slR .here) (fun r h => (hr r h).l.ok) hn hc) ?_
  clear hp
  intro v14 κ14 s hp _
  conv => whnf
  have hsr : ∀ r ∈ seesF rows c, r.ok := fun r h => hr r (List.mem_filter.1 h).1
  have hsn : (seesF rows c).length ≤ 100 := Nat.le_trans (List.length_filter_le _ _) hn
  generalize seesF rows c = sn at hp hsr hsn
  have hb3 := hp.blk (k := p3) (b := p3) (C := qCells sum) (e := 6) (by repeat (first | exact Has.here | apply Has.there | (apply Has.swap; repeat (first | exact HasR.here | apply HasR.there))))
  refine hp.call (deletef_spec hp.wf (hp.slF (κ := κ14) (v := v14) .here) hsn (g := 14) (us := #[]) (vs := #[.pointer (some ⟨p3, 0, none⟩)]) (fun hk r _ => run1_all hk.wf (hk.blk _ _ _ _ (fun h => h) hb3) r)) ?_
  clear hp hb3
  rintro r s h hp _
  obtain rfl := h.symm
  conv => whnf
  refine Sm.live [1, 3] ?_
  conv => whnf
  refine Sm.seqW ?_
  conv => whnf
  refine Sm.live [1, 3, 8] ?_
  conv => whnf
  obtain ⟨a14, c14, rfl⟩ := (hp.slF (κ := κ14) (v := v14) .here).shape
  refine Sm.seqC (fun e L' s' => e = .normal ∧ ∃ κo w, Hp (fun _ => False) z [slA κ (.slice a rows.length cp) 10 rows.length (rvCells rows)] [onA κo w 7 (outF sum sn).length (ovCells (outF sum sn)), blkA p3 p3 (qCells sum) 6] s' ∧ Sub [(3, .pointer (some ⟨p3, 0, none⟩)), (8, w)] L') ?_ ?_
  · conv => whnf
    (refine hp.load (by repeat (first | exact Has.here | apply Has.there | (apply Has.swap; repeat (first | exact HasR.here | apply HasR.there)))) (by rfl) rfl rfl rfl ?_; conv => whnf)
    cases sum with
    | true =>
      refine Br.yes rfl ?_
      conv => whnf
      (refine hp.load (by repeat (first | exact Has.here | apply Has.there | (apply Has.swap; repeat (first | exact HasR.here | apply HasR.there)))) (by rfl) rfl rfl rfl ?_; conv => whnf)
      have hO : outF true sn = [⟨0, mkD (sumP sn).1 (sumP sn).2, joinL sn⟩] := if_pos rfl
      refine (summed_spec hp.wf (hp.slF (κ := κ14) (v := .slice a14 sn.length c14) (by repeat (first | exact Rm.here | apply Rm.there))) hsr hsn).mono ?_
      rintro r s' ⟨k1, w, rfl, o⟩
      obtain ⟨κo, hp'⟩ := hp.on k1 o
      clear hp k1 o
      have hp := hp'
      clear hp'
      conv => whnf
      refine Br.no rfl ?_
      conv => whnf
      rw [hO]
      exact ⟨rfl, κo, w, hp.pik (by repeat (first | exact Pik.nil | exact Pik.refl _ | exact Rm.here | apply Rm.there | apply Pik.cons | apply Pik.skip)), subK_ok ⟨rfl, rfl, trivial⟩⟩
    | false =>
      refine Br.no rfl ?_
      conv => whnf
      have hO : outF false sn = sn.map fun r => ⟨r.ac, r.am, r.l⟩ := if_neg (by decide)
      refine Lp.ofS (α := Nat × Option Nat × Value) (fun x => [(3, .pointer (some ⟨p3, 0, none⟩)), (8, x.2.2), (29, .slice a14 sn.length c14), (30, .int .i64 (sn.length : Int)), (31, .int .i64 (x.1 : Int))])
        (fun x s' => x.1 ≤ sn.length ∧ Hp (fun _ => False) z [slA κ (.slice a rows.length cp) 10 rows.length (rvCells rows)] [onA x.2.1 x.2.2 7 x.1 (ovCells ((sn.take x.1).map fun r => ⟨r.ac, r.am, r.l⟩)), onA κ14 (.slice a14 sn.length c14) 10 sn.length (rvCells sn), blkA p3 p3 (qCells false) 6] s')
        (fun x => sn.length - x.1) ?_ (0, none, .slice none 0 0) (subK_ok (by refine ⟨rfl, rfl, rfl, rfl, rfl, trivial⟩)) ⟨Nat.zero_le _, (hp.push (a := onA none (.slice none 0 0) 7 0 []) (.refl hp.wf) ⟨.inl ⟨rfl, rfl, rfl, rfl⟩⟩ fun j hj => by cases hj).pik (by repeat (first | exact Pik.nil | exact Pik.refl _ | exact Rm.here | apply Rm.there | apply Pik.cons | apply Pik.skip))⟩
      clear hp
      rintro ⟨i, κo, vo⟩ s ⟨hi, hp⟩
      simp only at hi hp
      refine Sm.seqW ?_
      conv => whnf
      refine Sm.seq ?_
      refine Sm.ofW ?_
      conv => whnf
      refine Br.mk (fun hq => ?_) (fun hq => ?_)
      · have hi2 : i < sn.length := by have := of_decide_eq_true hq; omega
        have e6 : IntKind.i64.wrap ((i : Int) + 1) = ((i + 1 : Nat) : Int) := by rw [wi64 (by omega) (by omega)]; omega
        have hsnc : ((sn.take (i + 1)).map fun r => (⟨r.ac, r.am, r.l⟩ : Ov)) = ((sn.take i).map fun r => (⟨r.ac, r.am, r.l⟩ : Ov)) ++ [⟨sn[i].ac, sn[i].am, sn[i].l⟩] := by
          rw [List.take_succ_eq_append_getElem hi2, List.map_append]; rfl
        conv => whnf
        refine Sm.seq ?_
        refine Sm.block ?_
        refine Sm.seqW ?_
        conv => whnf
        obtain ⟨p, e1, e2⟩ := index_rv (hp.slF (κ := κ14) (v := .slice a14 sn.length c14) (by repeat (first | exact Rm.here | apply Rm.there))) .i64 hi2
        refine Om.of _ (e1) ?_
        conv => whnf
        refine Om.of _ (e2) ?_
        conv => whnf
        generalize sn[i] = r at hsnc
        clear e1 e2
        refine hp.alloc (cs := Rv.cells ⟨0, 0, 0, 0, ⟨false, 0, 0⟩, ⟨0, 0⟩⟩) (e := 10) rfl rfl rfl rfl rfl ?_
        clear hp
        intro p11 s hp _
        conv => whnf
        refine hp.storeW (vs := r.cells) (C := Rv.cells ⟨0, 0, 0, 0, ⟨false, 0, 0⟩, ⟨0, 0⟩⟩) rfl (by repeat (first | exact Rm.here | apply Rm.there)) (by rfl) rfl rfl rfl ?_
        clear hp
        intro s hp _
        conv => whnf
        refine Sm.live [3, 8, 11, 29, 30, 31] ?_
        conv => whnf
        refine Sm.ofW ?_
        conv => whnf
        (refine hp.load (by repeat (first | exact Has.here | apply Has.there | (apply Has.swap; repeat (first | exact HasR.here | apply HasR.there)))) (by rfl) rfl rfl rfl ?_; conv => whnf)
        refine hp.loadA (l := r.am.cells) (by repeat (first | exact Has.here | apply Has.there | (apply Has.swap; repeat (first | exact HasR.here | apply HasR.there)))) rfl (by rfl) rfl rfl ?_
        conv => whnf
        refine hp.loadA (l := r.l.cells) (by repeat (first | exact Has.here | apply Has.there | (apply Has.swap; repeat (first | exact HasR.here | apply HasR.there)))) rfl (by rfl) rfl rfl ?_
        conv => whnf
        refine hp.lit (cs := (Ov.mk r.ac r.am r.l).cells) (e := 7) rfl ?_
        clear hp
        intro b12 s hp _
        conv => whnf
        refine hp.app RO7 Try.underlying40 rfl (κ := κo) (v := vo) (by repeat (first | exact Rm.here | apply Rm.there)) (elems_sl (hp.blkSl (n := 1) (m := (by repeat (first | exact Has.here | apply Has.there | (apply Has.swap; repeat (first | exact HasR.here | apply HasR.there))) : Has (blkA b12 b12 (Ov.mk r.ac r.am r.l).cells 7) _ _)) rfl)) rfl rfl (by omega) ?_
        clear hp
        intro v13 κ13 s hp
        conv => whnf
        refine Sm.ofW ?_
        conv => whnf
        have hq2 : ovCells ((sn.take i).map fun r => ⟨r.ac, r.am, r.l⟩) ++ (Ov.mk r.ac r.am r.l).cells = ovCells ((sn.take (i + 1)).map fun r => ⟨r.ac, r.am, r.l⟩) := by rw [hsnc, ovCells_append]; simp [ovCells]
        rw [hq2] at hp
        exact ⟨(i + 1, κ13, v13), by (show sn.length - (i + 1) < sn.length - i); omega, subK_ok (by refine ⟨rfl, rfl, rfl, rfl, congrArg (fun x => some (Value.int .i64 x)) e6, trivial⟩), hi2, hp.pik (by repeat (first | exact Pik.nil | exact Pik.refl _ | exact Rm.here | apply Rm.there | apply Pik.cons | apply Pik.skip))⟩
      · have hi2 : i = sn.length := by have := of_decide_eq_false hq; omega
        subst hi2
        rw [List.take_of_length_le (Nat.le_refl _)] at hp
        conv => whnf
        rw [hO, List.length_map]
        exact ⟨rfl, κo, vo, hp.pik (by repeat (first | exact Pik.nil | exact Pik.refl _ | exact Rm.here | apply Rm.there | apply Pik.cons | apply Pik.skip)), subK_ok ⟨rfl, rfl, trivial⟩⟩
  clear hp
  rintro e L' s ⟨rfl, κo, w, hp, hsub⟩
  refine Sm.weak _ hsub ?_
  clear hsub
  refine Sm.seqC (fun e L' s' => e = .normal ∧ s' = s ∧ Sub [(3, .pointer (some ⟨p3, 0, none⟩)), (8, w)] L') ?_ ?_
  · conv => whnf
    (refine hp.load (by repeat (first | exact Has.here | apply Has.there | (apply Has.swap; repeat (first | exact HasR.here | apply HasR.there)))) (by rfl) rfl rfl rfl ?_; conv => whnf)
    refine Br.no rfl ?_
    conv => whnf
    exact ⟨rfl, rfl, subK_ok ⟨rfl, rfl, trivial⟩⟩
  rintro e L' s ⟨rfl, rfl, hsub⟩
  refine Sm.weak _ hsub ?_
  clear hsub
  refine Sm.seqC (fun e L' s' => e = .normal ∧ s' = s ∧ Sub [(8, w)] L') ?_ ?_
  · conv => whnf
    (refine hp.load (by repeat (first | exact Has.here | apply Has.there | (apply Has.swap; repeat (first | exact HasR.here | apply HasR.there)))) (by rfl) rfl rfl rfl ?_; conv => whnf)
    refine Br.no rfl ?_
    conv => whnf
    exact ⟨rfl, rfl, subK_ok ⟨rfl, trivial⟩⟩
  rintro e L' s ⟨rfl, rfl, hsub⟩
  refine Sm.weak _ hsub ?_
  clear hsub
  have hol : (outF sum sn).length ≤ 100 := by unfold outF; split <;> simp; omega
  refine Sm.seqW ?_
  conv => whnf
  refine (ovclone_spec hp.wf (hp.slF (κ := κo) (v := w) (by repeat (first | exact Rm.here | apply Rm.there))) (by omega)).mono ?_
  rintro w2 s2 ⟨k2, o2⟩
  have hfr := hp.fr.then0 k2
  have hmn : OwnN z.next s2 w2 7 (outF sum sn).length (ovCells (outF sum sn)) := o2.mono hp.fr.next
  conv => whnf
  refine (ovclip_spec o2).mono ?_
  rintro r s' ⟨h1, h2⟩
  subst h1 h2
  conv => whnf
  refine Sm.ofW ?_
  conv => whnf
  exact ⟨hfr, _, rfl, hmn⟩
end Go.Ev
end

/- Rows and answers that are alike. No condition. -/
noncomputable section
namespace Go.Ev
open Go.Proofs
variable [Lk]
set_option linter.unusedSectionVars false
set_option linter.unusedVariables false
set_option maxRecDepth 100000

def ovE (a b : Ov) : Bool := ((a.key == b.key) && (((a.v.neg == b.v.neg) && (((((a.v.c % w64 : Nat) : Int) == ((b.v.c % w64 : Nat) : Int)) && (((a.v.c / w64 : Nat) : Int) == ((b.v.c / w64 : Nat) : Int))) && (a.v.scale == b.v.scale))) && ((((a.l.set : Nat) : Int) == ((b.l.set : Nat) : Int)) && (a.l.lev == b.l.lev))))
theorem ov_e (a b : Ov) : evEq Try.prog 10000 49 a.val b.val = some (ovE a b) := by
  have key : ∀ q0 q1 q2 q3 q4 q5 q6 : Bool, (a.key == b.key) = q0 → (a.v.neg == b.v.neg) = q1 → (((a.v.c % w64 : Nat) : Int) == ((b.v.c % w64 : Nat) : Int)) = q2 → (((a.v.c / w64 : Nat) : Int) == ((b.v.c / w64 : Nat) : Int)) = q3 → (a.v.scale == b.v.scale) = q4 → (((a.l.set : Nat) : Int) == ((b.l.set : Nat) : Int)) = q5 → (a.l.lev == b.l.lev) = q6 → evEq Try.prog 10000 49 a.val b.val = some (q0 && ((q1 && ((q2 && q3) && q4)) && (q5 && q6))) := by
    intro q0 q1 q2 q3 q4 q5 q6 h0 h1 h2 h3 h4 h5 h6
    have hX : evEq Try.prog 10000 49 a.val b.val = (match (some (a.key == b.key) : Option Bool) with | some true => (match ((match (some (a.v.neg == b.v.neg) : Option Bool) with | some true => (match ((match (some (((a.v.c % w64 : Nat) : Int) == ((b.v.c % w64 : Nat) : Int)) : Option Bool) with | some true => (match (some (((a.v.c / w64 : Nat) : Int) == ((b.v.c / w64 : Nat) : Int)) : Option Bool) with | some true => some true | some false => some false | none => none) | some false => some false | none => none) : Option Bool) with | some true => (match (some (a.v.scale == b.v.scale) : Option Bool) with | some true => some true | some false => some false | none => none) | some false => some false | none => none) | some false => some false | none => none) : Option Bool) with | some true => (match ((match (some (((a.l.set : Nat) : Int) == ((b.l.set : Nat) : Int)) : Option Bool) with | some true => (match (some (a.l.lev == b.l.lev) : Option Bool) with | some true => some true | some false => some false | none => none) | some false => some false | none => none) : Option Bool) with | some true => some true | some false => some false | none => none) | some false => some false | none => none) | some false => some false | none => none) := by kernel_rfl
    rw [hX]
    rw [h0, h1, h2, h3, h4, h5, h6]
    cases q0
    · rfl
    cases q1
    · rfl
    cases q2
    · rfl
    cases q3
    · rfl
    cases q4
    · rfl
    cases q5
    · rfl
    cases q6
    · rfl
    rfl
  exact key _ _ _ _ _ _ _ rfl rfl rfl rfl rfl rfl rfl
theorem ov_eq (a b : Ov) (c : Bool) : evBin Try.prog .eql 49 c a.val b.val = some (.bool ((ovE a b))) := by
  have hg : Try.prog.eqGuardType Try.prog.depth 49 = false := by decide +kernel
  show (match !(Try.prog.eqGuardType Try.prog.depth 49) with | false => none | true => (match evEq Try.prog 10000 49 a.val b.val with | some b => some (Value.bool (b)) | none => none)) = _
  rw [hg, ov_e]; rfl
theorem ov_ne (a b : Ov) (c : Bool) : evBin Try.prog .neq 49 c a.val b.val = some (.bool (!(ovE a b))) := by
  have hg : Try.prog.eqGuardType Try.prog.depth 49 = false := by decide +kernel
  show (match !(Try.prog.eqGuardType Try.prog.depth 49) with | false => none | true => (match evEq Try.prog 10000 49 a.val b.val with | some b => some (Value.bool (!b)) | none => none)) = _
  rw [hg, ov_e]; rfl
def rvE (a b : Rv) : Bool := ((a.e == b.e) && ((a.ac == b.ac) && ((a.p == b.p) && ((a.w == b.w) && (((a.am.neg == b.am.neg) && (((((a.am.c % w64 : Nat) : Int) == ((b.am.c % w64 : Nat) : Int)) && (((a.am.c / w64 : Nat) : Int) == ((b.am.c / w64 : Nat) : Int))) && (a.am.scale == b.am.scale))) && ((((a.l.set : Nat) : Int) == ((b.l.set : Nat) : Int)) && (a.l.lev == b.l.lev)))))))
theorem rv_e (a b : Rv) : evEq Try.prog 10000 38 a.val b.val = some (rvE a b) := by
  have key : ∀ q0 q1 q2 q3 q4 q5 q6 q7 q8 q9 : Bool, (a.e == b.e) = q0 → (a.ac == b.ac) = q1 → (a.p == b.p) = q2 → (a.w == b.w) = q3 → (a.am.neg == b.am.neg) = q4 → (((a.am.c % w64 : Nat) : Int) == ((b.am.c % w64 : Nat) : Int)) = q5 → (((a.am.c / w64 : Nat) : Int) == ((b.am.c / w64 : Nat) : Int)) = q6 → (a.am.scale == b.am.scale) = q7 → (((a.l.set : Nat) : Int) == ((b.l.set : Nat) : Int)) = q8 → (a.l.lev == b.l.lev) = q9 → evEq Try.prog 10000 38 a.val b.val = some (q0 && (q1 && (q2 && (q3 && ((q4 && ((q5 && q6) && q7)) && (q8 && q9)))))) := by
    intro q0 q1 q2 q3 q4 q5 q6 q7 q8 q9 h0 h1 h2 h3 h4 h5 h6 h7 h8 h9
    have hX : evEq Try.prog 10000 38 a.val b.val = (match (some (a.e == b.e) : Option Bool) with | some true => (match (some (a.ac == b.ac) : Option Bool) with | some true => (match (some (a.p == b.p) : Option Bool) with | some true => (match (some (a.w == b.w) : Option Bool) with | some true => (match ((match (some (a.am.neg == b.am.neg) : Option Bool) with | some true => (match ((match (some (((a.am.c % w64 : Nat) : Int) == ((b.am.c % w64 : Nat) : Int)) : Option Bool) with | some true => (match (some (((a.am.c / w64 : Nat) : Int) == ((b.am.c / w64 : Nat) : Int)) : Option Bool) with | some true => some true | some false => some false | none => none) | some false => some false | none => none) : Option Bool) with | some true => (match (some (a.am.scale == b.am.scale) : Option Bool) with | some true => some true | some false => some false | none => none) | some false => some false | none => none) | some false => some false | none => none) : Option Bool) with | some true => (match ((match (some (((a.l.set : Nat) : Int) == ((b.l.set : Nat) : Int)) : Option Bool) with | some true => (match (some (a.l.lev == b.l.lev) : Option Bool) with | some true => some true | some false => some false | none => none) | some false => some false | none => none) : Option Bool) with | some true => some true | some false => some false | none => none) | some false => some false | none => none) | some false => some false | none => none) | some false => some false | none => none) | some false => some false | none => none) | some false => some false | none => none) := by kernel_rfl
    rw [hX]
    rw [h0, h1, h2, h3, h4, h5, h6, h7, h8, h9]
    cases q0
    · rfl
    cases q1
    · rfl
    cases q2
    · rfl
    cases q3
    · rfl
    cases q4
    · rfl
    cases q5
    · rfl
    cases q6
    · rfl
    cases q7
    · rfl
    cases q8
    · rfl
    cases q9
    · rfl
    rfl
  exact key _ _ _ _ _ _ _ _ _ _ rfl rfl rfl rfl rfl rfl rfl rfl rfl rfl
theorem rv_eq (a b : Rv) (c : Bool) : evBin Try.prog .eql 38 c a.val b.val = some (.bool ((rvE a b))) := by
  have hg : Try.prog.eqGuardType Try.prog.depth 38 = false := by decide +kernel
  show (match !(Try.prog.eqGuardType Try.prog.depth 38) with | false => none | true => (match evEq Try.prog 10000 38 a.val b.val with | some b => some (Value.bool (b)) | none => none)) = _
  rw [hg, rv_e]; rfl
theorem ovE_self (a : Ov) : ovE a a = true := by unfold ovE; simp
theorem rvE_self (a : Rv) : rvE a a = true := by unfold rvE; simp
theorem rvE_iff {a b : Rv} : rvE a b = true ↔ a = b := by
  constructor
  · intro h
    unfold rvE at h
    simp only [Bool.and_eq_true, beq_iff_eq] at h
    obtain ⟨e, ac, p, w, ⟨n, c, sc⟩, ⟨s, l⟩⟩ := a
    obtain ⟨e', ac', p', w', ⟨n', c', sc'⟩, ⟨s', l'⟩⟩ := b
    simp only at h
    obtain ⟨h1, h2, h3, h4, ⟨h5, ⟨h6, h7⟩, h8⟩, h9, h10⟩ := h
    have h6 : c % w64 = c' % w64 := by omega
    have h7 : c / w64 = c' / w64 := by omega
    have hc : c = c' := by rw [← Nat.div_add_mod c w64, ← Nat.div_add_mod c' w64, h6, h7]
    have hs : s = s' := by omega
    subst h1 h2 h3 h4 h5 h8 h10 hc hs
    rfl
  · rintro rfl; exact rvE_self a
end Go.Ev
end

/- Fields of answers in a slice; chapter 23's example. No condition. -/
noncomputable section
namespace Go.Ev
open Go.Proofs
variable [Lk]
set_option linter.unusedSectionVars false
set_option linter.unusedVariables false
set_option maxRecDepth 100000

theorem index_uF {P : Program} {t et sz by_ : Nat} {z : Value} (T : SlT P t et sz by_ z) {s : St} {κ : Option Nat} {v : Value} {n i : Nat} {cs : List Value} (h : Sl s κ v sz n cs) (k : IntKind) (hi : i < n) :
    ∃ b off, evIndexAddr P t v (.int k (i : Int)) = some (.pointer (some ⟨b, off, none⟩)) ∧ ∃ C, s.rd b = some C ∧ Go.Ev.sl C off sz = some ((cs.drop (i * sz)).take sz) := by
  obtain ⟨j, hi1, hi2, hi3, hi4⟩ := T.hi
  rcases h.ex with ⟨rfl, rfl, rfl, rfl⟩ | ⟨b, off, c, C, rfl, hc, hl, hs, hm⟩
  · omega
  · have hr : s.rd b = some C := by
      rcases hm with ⟨k, _, hm⟩ | ⟨_, hm⟩
      · exact hm.rd
      · exact hm.rd
    have hle : i * sz + sz ≤ n * sz := by
      have : (i + 1) * sz ≤ n * sz := Nat.mul_le_mul_right _ hi
      rw [Nat.add_mul, Nat.one_mul] at this; exact this
    refine ⟨b, off + i * sz, ?_, C, hr, u_sl_sub hs hle⟩
    show (match P.underlying t, Value.slice (some ⟨b, off, none⟩) n c, Value.int k (.ofNat i) with
        | some (.slice e), .slice (some a) n _, .int _ (.ofNat i) => match Nat.blt i n, P.info? e with
          | true, some j => some (Value.pointer (some ⟨a.block, a.off + i * j.size, none⟩))
          | _, _ => none
        | some (.array n e), .pointer (some a), .int _ (.ofNat i) => match Nat.blt i n, P.info? e with
          | true, some j => some (Value.pointer (some ⟨a.block, a.off + i * j.size, none⟩))
          | _, _ => none
        | _, _, _ => none) = _
    rw [T.hu]
    simp only [blt_of hi, hi1, hi2]
theorem index_ovF {s : St} {κ : Option Nat} {v : Value} {l : List Ov} (h : Sl s κ v 7 l.length (ovCells l)) (k : IntKind) {i : Nat} (hi : i < l.length) :
    ∃ b off, evIndexAddr Try.prog 40 v (.int k (i : Int)) = some (.pointer (some ⟨b, off, none⟩)) ∧ evLoad Try.prog 49 (.pointer (some ⟨b, off, none⟩)) s = some l[i].val
      ∧ evLoad Try.prog 36 (.pointer (some ⟨b, off + 1, none⟩)) s = some l[i].v.val ∧ evLoad Try.prog 31 (.pointer (some ⟨b, off + 5, none⟩)) s = some l[i].l.val := by
  obtain ⟨b, off, e1, C, e2, e3⟩ := index_uF RO7 h k hi
  rw [ov_at hi] at e3
  exact ⟨b, off, e1, u_load_agg Try.underlying49 rfl e2 e3, u_load_agg Try.underlying36 rfl e2 (u_sl_sub e3 (i := 1) (m := 4) (by decide)), u_load_agg Try.underlying31 rfl e2 (u_sl_sub e3 (i := 5) (m := 2) (by decide))⟩
def qZero : List Value := [.slice none 0 0, .int .i64 0, .int .i64 0, .bool false, .bool false, .int .i64 0]
def kRows : List Rv := [⟨0, 0, 0, 0, ofD 5 0, ⟨1, 0⟩⟩, ⟨0, 0, 0, 0, ofD 7 0, ⟨2, 0⟩⟩]
theorem kRows_ok : ∀ r ∈ kRows, r.ok := by
  intro r hr
  simp only [kRows, List.mem_cons, List.not_mem_nil, or_false] at hr
  rcases hr with rfl | rfl
  · exact ⟨⟨5, 0, by kernel_rfl, by decide, by decide, by decide, by decide⟩, ⟨by decide, by decide, by decide⟩, by decide, by decide⟩
  · exact ⟨⟨7, 0, by kernel_rfl, by decide, by decide, by decide, by decide⟩, ⟨by decide, by decide, by decide⟩, by decide, by decide⟩
theorem vknown_spec {z : St} (wf : WF z) : Cw Try.prog 10 [] z fun r s' => K0 z s' ∧ r = .bool true := by
  have hp : Hp (fun _ => False) z [] [] z := Hp.start _ wf _ (by simp)
  refine Cw.enterS Try.func10 rfl rfl ?_
  refine Sm.seqW ?_
  conv => whnf
  refine Sm.seqW ?_
  conv => whnf
  refine hp.alloc (cs := qZero) (e := 6) rfl rfl rfl rfl rfl ?_
  clear hp
  intro p1 s hp _
  conv => whnf
  refine hp.storeW (vs := qCells true) (C := qZero) rfl (by repeat (first | exact Rm.here | apply Rm.there)) (by rfl) rfl rfl rfl ?_
  clear hp
  intro s hp _
  conv => whnf
  refine Sm.live [1] ?_
  conv => whnf
  refine Sm.seqW ?_
  conv => whnf
  refine hp.alloc (cs := (Lb.mk 0 0).cells) (e := 2) rfl rfl rfl rfl rfl ?_
  clear hp
  intro p2 s hp _
  conv => whnf
  refine hp.storeW (vs := (Lb.mk 255 3).cells) (C := (Lb.mk 0 0).cells) rfl (by repeat (first | exact Rm.here | apply Rm.there)) (by rfl) rfl rfl rfl ?_
  clear hp
  intro s hp _
  conv => whnf
  refine Sm.live [1, 2] ?_
  conv => whnf
  refine Sm.seqW ?_
  conv => whnf
  refine hp.call (rof_spec hp.wf (n := 5) (by unfold inR; decide) 0) ?_
  clear hp
  rintro _ s rfl hp _
  conv => whnf
  refine hp.call (rof_spec hp.wf (n := 7) (by unfold inR; decide) 0) ?_
  clear hp
  rintro _ s rfl hp _
  conv => whnf
  refine hp.lit (cs := rvCells kRows) (e := 10) rfl ?_
  clear hp
  intro b3 s hp _
  conv => whnf
  refine Sm.live [1, 2, 3] ?_
  conv => whnf
  refine Sm.seqW ?_
  conv => whnf
  refine hp.loadA (l := qCells true) (by repeat (first | exact Has.here | apply Has.there | (apply Has.swap; repeat (first | exact HasR.here | apply HasR.there)))) rfl (by rfl) rfl rfl ?_
  conv => whnf
  refine hp.loadA (l := (Lb.mk 255 3).cells) (by repeat (first | exact Has.here | apply Has.there | (apply Has.swap; repeat (first | exact HasR.here | apply HasR.there)))) rfl (by rfl) rfl rfl ?_
  conv => whnf
  refine (vrun_spec hp.wf (κ := none) (v := .slice none 0 0) (rows := []) ⟨.inl ⟨rfl, rfl, rfl, rfl⟩⟩ (fun r h => by cases h) (by decide) (c := ⟨255, 3⟩) ⟨by decide, by unfold inR; decide⟩ true).mono ?_
  rintro r s' ⟨k1, w4, rfl, o⟩
  have e1 : outF true (seesF [] ⟨255, 3⟩) = [Ov.zero] := by kernel_rfl
  rw [e1] at o
  obtain ⟨κ4, hp'⟩ := hp.on k1 o
  clear hp k1 o
  have hp := hp'
  clear hp'
  conv => whnf
  refine Sm.live [1, 3, 4, 5] ?_
  conv => whnf
  refine Sm.seqW ?_
  conv => whnf
  refine hp.loadA (l := qCells true) (by repeat (first | exact Has.here | apply Has.there | (apply Has.swap; repeat (first | exact HasR.here | apply HasR.there)))) rfl (by rfl) rfl rfl ?_
  conv => whnf
  refine (vrun_spec hp.wf (rows := kRows) (hp.blkSl (n := 2) (m := (by repeat (first | exact Has.here | apply Has.there | (apply Has.swap; repeat (first | exact HasR.here | apply HasR.there))) : Has (blkA b3 b3 (rvCells kRows) 10) _ _)) rfl) kRows_ok (by decide) (c := ⟨1, 0⟩) ⟨by decide, by unfold inR; decide⟩ true).mono ?_
  rintro r s' ⟨k1, w6, rfl, o⟩
  have e2 : outF true (seesF kRows ⟨1, 0⟩) = [⟨0, ofD 5 0, ⟨1, 0⟩⟩] := by kernel_rfl
  rw [e2] at o
  obtain ⟨κ6, hp'⟩ := hp.on k1 o
  clear hp k1 o
  have hp := hp'
  clear hp'
  obtain ⟨a4, c4, rfl⟩ := (hp.slF (κ := κ4) (v := w4) (by repeat (first | exact Rm.here | apply Rm.there))).shape
  obtain ⟨a6, c6, rfl⟩ := (hp.slF (κ := κ6) (v := w6) (by repeat (first | exact Rm.here | apply Rm.there))).shape
  conv => whnf
  refine Sm.live [4, 5, 6, 7] ?_
  conv => whnf
  refine Sm.seqW ?_
  conv => whnf
  refine ⟨[0, 1, 3, 7, 15, 31, 63, 127, 255, 511, 1023, 255, 4095, 8191, 16383, 32767, 65535, 131071, 262143, 524287, 1048575, 2097151, 4194303, 8388607, 16777215, 33554431, 67108863, 16777215, 16777215, 419430399, 1073741823, 2147483647, 4294967295], by decide +kernel, by decide +kernel, ?_⟩
  conv => whnf
  repeat (first | (refine Br.yes (by first | with_reducible rfl | with_reducible exact beq_self_eq_true _ | rfl) ?_; conv => whnf) | (refine Br.no (by first | with_reducible rfl | with_reducible exact bne_self_eq_false _ | rfl) ?_; conv => whnf))
  obtain ⟨b, off, f1, f2, -, -⟩ := index_ovF (hp.slF (κ := κ4) (v := .slice a4 1 c4) (by repeat (first | exact Rm.here | apply Rm.there))) .i64 (i := 0) (by decide)
  refine Om.of _ (f1) ?_
  conv => whnf
  repeat (first | (refine Br.yes (by first | with_reducible rfl | with_reducible exact beq_self_eq_true _ | rfl) ?_; conv => whnf) | (refine Br.no (by first | with_reducible rfl | with_reducible exact bne_self_eq_false _ | rfl) ?_; conv => whnf))
  refine Om.of _ (f2) ?_
  conv => whnf
  repeat (first | (refine Br.yes (by first | with_reducible rfl | with_reducible exact beq_self_eq_true _ | rfl) ?_; conv => whnf) | (refine Br.no (by first | with_reducible rfl | with_reducible exact bne_self_eq_false _ | rfl) ?_; conv => whnf))
  refine Om.of _ (ov_eq Ov.zero Ov.zero _) ?_
  conv => whnf
  rw [ovE_self]
  repeat (first | (refine Br.yes (by first | with_reducible rfl | with_reducible exact beq_self_eq_true _ | rfl) ?_; conv => whnf) | (refine Br.no (by first | with_reducible rfl | with_reducible exact bne_self_eq_false _ | rfl) ?_; conv => whnf))
  clear f1 f2
  obtain ⟨b, off, f1, f2, -, -⟩ := index_ovF (hp.slF (κ := κ6) (v := .slice a6 1 c6) (by repeat (first | exact Rm.here | apply Rm.there))) .i64 (i := 0) (by decide)
  refine Om.of _ (f1) ?_
  conv => whnf
  repeat (first | (refine Br.yes (by first | with_reducible rfl | with_reducible exact beq_self_eq_true _ | rfl) ?_; conv => whnf) | (refine Br.no (by first | with_reducible rfl | with_reducible exact bne_self_eq_false _ | rfl) ?_; conv => whnf))
  refine Om.of _ (f2) ?_
  conv => whnf
  repeat (first | (refine Br.yes (by first | with_reducible rfl | with_reducible exact beq_self_eq_true _ | rfl) ?_; conv => whnf) | (refine Br.no (by first | with_reducible rfl | with_reducible exact bne_self_eq_false _ | rfl) ?_; conv => whnf))
  refine hp.rst.call (rof_spec hp.rst.wf (n := 5) (by unfold inR; decide) 0) ?_
  rintro _ s1 rfl h1 k1
  conv => whnf
  refine hp.dkN h1 k1 ?_
  clear hp h1 k1
  intro s hp
  conv => whnf
  repeat (first | (refine Br.yes (by first | with_reducible rfl | with_reducible exact beq_self_eq_true _ | rfl) ?_; conv => whnf) | (refine Br.no (by first | with_reducible rfl | with_reducible exact bne_self_eq_false _ | rfl) ?_; conv => whnf))
  refine Om.of _ (ov_eq ⟨0, ofD 5 0, ⟨1, 0⟩⟩ ⟨0, ofD 5 0, ⟨1, 0⟩⟩ _) ?_
  conv => whnf
  rw [ovE_self]
  repeat (first | (refine Br.yes (by first | with_reducible rfl | with_reducible exact beq_self_eq_true _ | rfl) ?_; conv => whnf) | (refine Br.no (by first | with_reducible rfl | with_reducible exact bne_self_eq_false _ | rfl) ?_; conv => whnf))
  refine Sm.live [0] ?_
  conv => whnf
  refine Sm.ofW ?_
  conv => whnf
  exact ⟨hp.fr, rfl⟩
end Go.Ev
end

/- ViewLabels without a program, and walked. No condition. -/
noncomputable section
namespace Go.Ev
open Go.Proofs
variable [Lk]
set_option linter.unusedSectionVars false
set_option linter.unusedVariables false
set_option maxRecDepth 100000

/-- What a lower clearance sees is what it sees of what a higher one does. -/
theorem sees_low {rows : List Rv} (h : ∀ r ∈ rows, r.l.sm) {lo hi : Lb} (h1 : lo.sm) (h2 : hi.sm) (hb : belowF lo hi = true) : seesF rows lo = (seesF rows hi).filter fun r => belowF r.l lo := by
  unfold seesF
  rw [List.filter_filter]
  refine List.filter_congr fun r hr => ?_
  cases c : belowF r.l lo with
  | false => simp
  | true => simp [below_trans (h r hr) h1 h2 c hb]
theorem tabF_ok (l : List Int) : ∀ r ∈ tabF l, r.ok := tabN_ok l _
theorem tabF_len (l : List Int) : (tabF l).length ≤ 20 := by unfold tabF tabN; rw [List.length_map, List.length_range]; omega
theorem sum_take_ok {l : List Rv} (h : ∀ r ∈ l, r.ok) (hl : l.length ≤ 100) (i : Nat) : (sumP (l.take i)).1.natAbs ≤ 1000000000 ∧ 0 ≤ (sumP (l.take i)).2 ∧ (sumP (l.take i)).2 ≤ 2 :=
  sumP_lim (fun r hr => h r (List.mem_of_mem_take hr)) (by rw [List.length_take]; omega)
/-- Of the loops: the place in the lower list is right. -/
theorem step_yes {A B : List Rv} {lo : Lb} {k i : Nat} (hi : i < B.length) (h : A.drop k = (B.drop i).filter fun r => belowF r.l lo) (hb : belowF B[i].l lo = true) :
    ∃ hk : k < A.length, A[k] = B[i] ∧ A.drop (k + 1) = (B.drop (i + 1)).filter fun r => belowF r.l lo := by
  rw [List.drop_eq_getElem_cons hi, List.filter_cons, if_pos hb] at h
  have hk : k < A.length := by
    by_cases g : k < A.length
    · exact g
    · rw [List.drop_eq_nil_of_le (by omega)] at h; cases h
  rw [List.drop_eq_getElem_cons hk] at h
  injection h with h1 h2
  exact ⟨hk, h1, h2⟩
theorem step_no {A B : List Rv} {lo : Lb} {k i : Nat} (hi : i < B.length) (h : A.drop k = (B.drop i).filter fun r => belowF r.l lo) (hb : belowF B[i].l lo = false) :
    A.drop k = (B.drop (i + 1)).filter fun r => belowF r.l lo := by
  rw [List.drop_eq_getElem_cons hi, List.filter_cons, if_neg (by rw [hb]; decide)] at h
  exact h
theorem pick16 {n : Int} : ∃ k : Nat, n % 16 = (k : Int) ∧ k < 16 := ⟨(n % 16).toNat, by omega, by omega⟩
theorem viewLabels_walk {s0 : St} (wf : WF s0) {v : Value} {l : List Int} (hv : Sl s0 none v 1 l.length (l.map (Value.int .i64))) (hl : l.length ≤ 140737488351232) (hin : ∀ n ∈ l, inR n) {n level m other : Int} (hn : inR n) (hle : inR level) (hm : inR m) (ho : inR other) :
    Cw Try.prog 3 [v, .int .i64 n, .int .i64 level, .int .i64 m, .int .i64 other] s0 fun r _ => r = .bool true := by
  have hp : Hp (fun _ => False) s0 [slA none v 1 l.length (l.map (Value.int .i64))] [] s0 := Hp.start _ wf _ (by simp; exact hv)
  refine Cw.enterS Try.func3 rfl rfl ?_
  refine Sm.seqW ?_
  conv => whnf
  refine Sm.live [0, 1, 2, 3, 4] ?_
  conv => whnf
  refine Sm.seqW ?_
  conv => whnf
  refine table_spec hp .here hl hin ?_
  clear hp
  intro κx vx κb vb lb s hp
  conv => whnf
  have hok := tabF_ok l
  have hlen := tabF_len l
  generalize tabF l = rows at hp hok hlen
  have hsm : ∀ r ∈ rows, r.l.sm := fun r hr => (hok r hr).l
  refine Sm.live [1, 2, 3, 4, 11] ?_
  conv => whnf
  refine Sm.seqW ?_
  conv => whnf
  obtain ⟨a, ha, ha16⟩ := pick16 (n := n)
  obtain ⟨b, hb, hb16⟩ := pick16 (n := m)
  refine (pick_spec _ hn (by omega) (by omega)).mono ?_
  rintro _ s1 ⟨h1, rfl⟩
  obtain rfl := h1.symm
  conv => whnf
  refine (pick_spec _ hle (by omega) (by omega)).mono ?_
  rintro _ s1 ⟨h1, rfl⟩
  obtain rfl := h1.symm
  conv => whnf
  rw [ha]
  have ea : IntKind.u64.wrap (a : Int) = (a : Int) := by rw [wrap_u64i]; omega
  rw [ea]
  refine hp.alloc (cs := (Lb.mk 0 0).cells) (e := 2) rfl rfl rfl rfl rfl ?_
  clear hp
  intro p14 s hp _
  conv => whnf
  have hlo : (Lb.mk a (level % 4)).sm := ⟨show a < 256 by omega, show 0 ≤ level % 4 by omega, show level % 4 ≤ 3 by omega⟩
  have hot : (Lb.mk b (other % 4)).sm := ⟨show b < 256 by omega, show 0 ≤ other % 4 by omega, show other % 4 ≤ 3 by omega⟩
  refine hp.storeW (vs := (Lb.mk a (level % 4)).cells) (C := (Lb.mk 0 0).cells) rfl (by repeat (first | exact Rm.here | apply Rm.there)) (by rfl) rfl rfl rfl ?_
  clear hp
  intro s hp _
  conv => whnf
  refine Sm.live [3, 4, 11, 14] ?_
  conv => whnf
  refine Sm.seqW ?_
  conv => whnf
  refine ⟨[0, 0, 2, 6, 0, 22, 62, 127, 0, 511], by decide +kernel, by decide +kernel, ?_⟩
  conv => whnf
  refine hp.loadA (l := (Lb.mk a (level % 4)).cells) (by repeat (first | exact Has.here | apply Has.there | (apply Has.swap; repeat (first | exact HasR.here | apply HasR.there)))) rfl (by rfl) rfl rfl ?_
  conv => whnf
  refine (pick_spec _ hm (by omega) (by omega)).mono ?_
  rintro _ s1 ⟨h1, rfl⟩
  obtain rfl := h1.symm
  conv => whnf
  refine hp.dkS ?_
  conv => whnf
  refine (pick_spec _ ho (by omega) (by omega)).mono ?_
  rintro _ s1 ⟨h1, rfl⟩
  obtain rfl := h1.symm
  conv => whnf
  refine hp.dkS ?_
  conv => whnf
  rw [hb]
  have eb : IntKind.u64.wrap (b : Int) = (b : Int) := by rw [wrap_u64i]; omega
  rw [eb]
  refine hp.rst.call (join_spec hp.rst.wf hlo.ok hot.ok) ?_
  rintro _ s1 rfl h1 k1
  conv => whnf
  refine hp.dkN h1 k1 ?_
  clear hp h1 k1
  intro s hp
  conv => whnf
  refine hp.rst.alloc (cs := (Lb.mk 0 0).cells) (e := 2) rfl rfl rfl rfl rfl ?_
  intro p15 s1 h1 k1
  conv => whnf
  refine hp.dkN h1 k1 ?_
  clear hp h1 k1
  intro s hp
  conv => whnf
  have hhi := joinF_sm hlo hot
  have hbj := below_j1 hlo hot
  generalize hJ : joinF ⟨a, level % 4⟩ ⟨b, other % 4⟩ = hi at hp hhi hbj ⊢
  refine hp.rst.storeW (vs := hi.cells) (C := (Lb.mk 0 0).cells) rfl (by repeat (first | exact Rm.here | apply Rm.there)) (by rfl) rfl rfl rfl ?_
  intro s1 h1 l1
  conv => whnf
  refine hp.dkW h1 l1 ?_
  clear hp h1 l1
  intro s hp
  conv => whnf
  generalize Lb.mk a (level % 4) = lo at hp hlo hbj
  refine Sm.live [11, 14, 15] ?_
  conv => whnf
  refine Sm.seqW ?_
  conv => whnf
  refine hp.loadA (l := lo.cells) (by repeat (first | exact Has.here | apply Has.there | (apply Has.swap; repeat (first | exact HasR.here | apply HasR.there)))) rfl (by rfl) rfl rfl ?_
  conv => whnf
  refine hp.callO (sees_spec hp.wf (hp.slF (κ := κx) (v := vx) (by repeat (first | exact Rm.here | apply Rm.there))) (fun r h => (hsm r h).ok) (by omega) hlo.ok) ?_
  clear hp
  intro v16 κ16 s hp _
  conv => whnf
  refine Sm.live [11, 14, 15, 16] ?_
  conv => whnf
  refine Sm.seqW ?_
  conv => whnf
  refine hp.loadA (l := hi.cells) (by repeat (first | exact Has.here | apply Has.there | (apply Has.swap; repeat (first | exact HasR.here | apply HasR.there)))) rfl (by rfl) rfl rfl ?_
  conv => whnf
  refine hp.callO (sees_spec hp.wf (hp.slF (κ := κx) (v := vx) (by repeat (first | exact Rm.here | apply Rm.there))) (fun r h => (hsm r h).ok) (by omega) hhi.ok) ?_
  clear hp
  intro v17 κ17 s hp _
  conv => whnf
  have hAB := sees_low hsm hlo hhi hbj
  have hAok : ∀ r ∈ seesF rows lo, r.ok := fun r hr => hok r (List.mem_filter.1 hr).1
  have hBok : ∀ r ∈ seesF rows hi, r.ok := fun r hr => hok r (List.mem_filter.1 hr).1
  have hAb : ∀ r ∈ seesF rows lo, belowF r.l lo = true := fun r hr => (List.mem_filter.1 hr).2
  have hBb : ∀ r ∈ seesF rows hi, belowF r.l hi = true := fun r hr => (List.mem_filter.1 hr).2
  have hAn : (seesF rows lo).length ≤ 100 := Nat.le_trans (List.length_filter_le _ _) (by omega)
  have hBn : (seesF rows hi).length ≤ 100 := Nat.le_trans (List.length_filter_le _ _) (by omega)
  generalize hA : seesF rows lo = A at hp hAB hAok hAb hAn
  generalize hB : seesF rows hi = B at hp hAB hBok hBb hBn
  obtain ⟨a16, c16, rfl⟩ := (hp.slF (κ := κ16) (v := v16) (by repeat (first | exact Rm.here | apply Rm.there))).shape
  obtain ⟨a17, c17, rfl⟩ := (hp.slF (κ := κ17) (v := v17) (by repeat (first | exact Rm.here | apply Rm.there))).shape
  refine Sm.live [11, 14, 15, 16, 17] ?_
  conv => whnf
  refine Sm.seqW ?_
  conv => whnf
  refine Sm.live [11, 14, 15, 16, 17, 18] ?_
  conv => whnf
  refine Sm.seq ?_
  refine Sm.seqW ?_
  conv => whnf
  refine Sm.live [11, 14, 15, 16, 18, 56, 57, 58] ?_
  conv => whnf
  refine Sm.block ?_
  refine Sm.loop ?_
  refine Lp.ofS (α := Nat × Nat) (fun x => [(11, vx), (14, .pointer (some ⟨p14, 0, none⟩)), (15, .pointer (some ⟨p15, 0, none⟩)), (16, .slice a16 A.length c16), (18, .int .i64 (x.1 : Int)), (56, .slice a17 B.length c17), (57, .int .i64 (B.length : Int)), (58, .int .i64 (x.2 : Int))])
    (fun x s' => x.1 ≤ A.length ∧ x.2 ≤ B.length ∧ A.drop x.1 = (B.drop x.2).filter (fun r => belowF r.l lo) ∧ Hp (fun _ => False) s0 [slA none v 1 l.length (l.map (Value.int .i64))] [onA κ17 (.slice a17 B.length c17) 10 B.length (rvCells B), onA κ16 (.slice a16 A.length c16) 10 A.length (rvCells A), blkA p15 p15 hi.cells 2, blkA p14 p14 lo.cells 2, onA κx vx 10 rows.length (rvCells rows)] s')
    (fun x => B.length - x.2) ?_ (0, 0) (subK_ok (by refine ⟨rfl, rfl, rfl, rfl, rfl, rfl, rfl, rfl, trivial⟩)) ⟨Nat.zero_le _, Nat.zero_le _, hAB, hp.pik (by repeat (first | exact Pik.nil | exact Pik.refl _ | exact Rm.here | apply Rm.there | apply Pik.cons | apply Pik.skip))⟩
  clear hp
  rintro ⟨k, i⟩ s ⟨hk, hi1, hd, hp⟩
  simp only at hk hi1 hd hp
  refine Sm.seqW ?_
  conv => whnf
  refine Sm.seq ?_
  refine Sm.ofW ?_
  conv => whnf
  refine Br.mk (fun hq => ?_) (fun hq => ?_)
  · have hi2 : i < B.length := by have := of_decide_eq_true hq; omega
    have e6 : IntKind.i64.wrap ((i : Int) + 1) = ((i + 1 : Nat) : Int) := by rw [wi64 (by omega) (by omega)]; omega
    conv => whnf
    refine Sm.seq (Sm.mono (Q := fun e L' s' => e = .normal ∧ ∃ k', k' ≤ A.length ∧ A.drop k' = (B.drop (i + 1)).filter (fun r => belowF r.l lo) ∧ Hp (fun _ => False) s0 [slA none v 1 l.length (l.map (Value.int .i64))] [onA κ17 (.slice a17 B.length c17) 10 B.length (rvCells B), onA κ16 (.slice a16 A.length c16) 10 A.length (rvCells A), blkA p15 p15 hi.cells 2, blkA p14 p14 lo.cells 2, onA κx vx 10 rows.length (rvCells rows)] s' ∧ Sub [(11, vx), (14, .pointer (some ⟨p14, 0, none⟩)), (15, .pointer (some ⟨p15, 0, none⟩)), (16, .slice a16 A.length c16), (18, .int .i64 (k' : Int)), (56, .slice a17 B.length c17), (57, .int .i64 (B.length : Int)), (58, .int .i64 (i : Int))] L') ?_ ?_)
    · refine Sm.block ?_
      refine Sm.seqW ?_
      conv => whnf
      obtain ⟨p, e1, e2⟩ := index_rv (hp.slF (κ := κ17) (v := .slice a17 B.length c17) (by repeat (first | exact Rm.here | apply Rm.there))) .i64 hi2
      refine Om.of _ (e1) ?_
      conv => whnf
      refine Om.of _ (e2) ?_
      conv => whnf
      have hrs := (hBok _ (List.getElem_mem hi2)).l
      have hyes := step_yes hi2 hd
      have hno := step_no hi2 hd
      generalize B[i] = r at hrs hyes hno
      clear e1 e2
      refine hp.alloc (cs := Rv.cells ⟨0, 0, 0, 0, ⟨false, 0, 0⟩, ⟨0, 0⟩⟩) (e := 10) rfl rfl rfl rfl rfl ?_
      clear hp
      intro p20 s hp _
      conv => whnf
      refine hp.storeW (vs := r.cells) (C := Rv.cells ⟨0, 0, 0, 0, ⟨false, 0, 0⟩, ⟨0, 0⟩⟩) rfl (by repeat (first | exact Rm.here | apply Rm.there)) (by rfl) rfl rfl rfl ?_
      clear hp
      intro s hp _
      conv => whnf
      refine Sm.live [11, 14, 15, 16, 18, 20, 56, 57, 58] ?_
      conv => whnf
      cases hbb : belowF r.l lo with
      | true =>
        obtain ⟨hk2, hk3, hk4⟩ := hyes hbb
        have e7 : IntKind.i64.wrap ((k : Int) + 1) = ((k + 1 : Nat) : Int) := by rw [wi64 (by omega) (by omega)]; omega
        have w1 : decide ((k : Int) < (A.length : Int)) = true := decide_eq_true (by omega)
        refine Sm.seqW ?_
        conv => whnf
        refine ⟨[0, 0, 2, 7, 15, 31, 31, 31, 223, 479, 1023, 2047], by decide +kernel, by decide +kernel, ?_⟩
        conv => whnf
        repeat (first | (refine Br.yes w1 ?_; conv => whnf) | (first | (refine Br.yes (by first | with_reducible rfl | with_reducible exact beq_self_eq_true _ | rfl) ?_; conv => whnf) | (refine Br.no (by first | with_reducible rfl | with_reducible exact bne_self_eq_false _ | rfl) ?_; conv => whnf)))
        refine hp.loadA (l := r.cells) (by repeat (first | exact Has.here | apply Has.there | (apply Has.swap; repeat (first | exact HasR.here | apply HasR.there)))) rfl (by rfl) rfl rfl ?_
        conv => whnf
        repeat (first | (refine Br.yes w1 ?_; conv => whnf) | (first | (refine Br.yes (by first | with_reducible rfl | with_reducible exact beq_self_eq_true _ | rfl) ?_; conv => whnf) | (refine Br.no (by first | with_reducible rfl | with_reducible exact bne_self_eq_false _ | rfl) ?_; conv => whnf)))
        obtain ⟨p, e1, e2⟩ := index_rv (hp.slF (κ := κ16) (v := .slice a16 A.length c16) (by repeat (first | exact Rm.here | apply Rm.there))) .i64 hk2
        refine Om.of _ (e1) ?_
        conv => whnf
        repeat (first | (refine Br.yes w1 ?_; conv => whnf) | (first | (refine Br.yes (by first | with_reducible rfl | with_reducible exact beq_self_eq_true _ | rfl) ?_; conv => whnf) | (refine Br.no (by first | with_reducible rfl | with_reducible exact bne_self_eq_false _ | rfl) ?_; conv => whnf)))
        refine Om.of _ (e2) ?_
        conv => whnf
        repeat (first | (refine Br.yes w1 ?_; conv => whnf) | (first | (refine Br.yes (by first | with_reducible rfl | with_reducible exact beq_self_eq_true _ | rfl) ?_; conv => whnf) | (refine Br.no (by first | with_reducible rfl | with_reducible exact bne_self_eq_false _ | rfl) ?_; conv => whnf)))
        rw [hk3]
        refine Om.of _ (rv_eq r r _) ?_
        conv => whnf
        rw [rvE_self]
        repeat (first | (refine Br.yes w1 ?_; conv => whnf) | (first | (refine Br.yes (by first | with_reducible rfl | with_reducible exact beq_self_eq_true _ | rfl) ?_; conv => whnf) | (refine Br.no (by first | with_reducible rfl | with_reducible exact bne_self_eq_false _ | rfl) ?_; conv => whnf)))
        refine Sm.live [11, 14, 15, 16, 18, 20, 56, 57, 58, 73] ?_
        conv => whnf
        refine Sm.ofW ?_
        conv => whnf
        refine Br.yes rfl ?_
        conv => whnf
        exact ⟨rfl, k + 1, by omega, hk4, hp.pik (by repeat (first | exact Pik.nil | exact Pik.refl _ | exact Rm.here | apply Rm.there | apply Pik.cons | apply Pik.skip)), subK_ok ⟨rfl, rfl, rfl, rfl, congrArg (fun x => some (Value.int .i64 x)) e7, rfl, rfl, rfl, trivial⟩⟩
      | false =>
        have hd2 := hno hbb
        refine Sm.seqC (fun e L' s' => e = .normal ∧ s' = s ∧ Sub [(11, vx), (14, .pointer (some ⟨p14, 0, none⟩)), (15, .pointer (some ⟨p15, 0, none⟩)), (16, .slice a16 A.length c16), (18, .int .i64 (k : Int)), (20, .pointer (some ⟨p20, 0, none⟩)), (56, .slice a17 B.length c17), (57, .int .i64 (B.length : Int)), (58, .int .i64 (i : Int)), (73, .bool false)] L') ?_ ?_
        · conv => whnf
          refine ⟨[0, 0, 2, 7, 15, 31, 31, 31, 223, 479, 1023, 2047], by decide +kernel, by decide +kernel, ?_⟩
          conv => whnf
          by_cases g : k < A.length
          · have w1 : decide ((k : Int) < (A.length : Int)) = true := decide_eq_true (by omega)
            repeat (first | (refine Br.yes w1 ?_; conv => whnf) | (first | (refine Br.yes (by first | with_reducible rfl | with_reducible exact beq_self_eq_true _ | rfl) ?_; conv => whnf) | (refine Br.no (by first | with_reducible rfl | with_reducible exact bne_self_eq_false _ | rfl) ?_; conv => whnf)))
            refine hp.loadA (l := r.cells) (by repeat (first | exact Has.here | apply Has.there | (apply Has.swap; repeat (first | exact HasR.here | apply HasR.there)))) rfl (by rfl) rfl rfl ?_
            conv => whnf
            repeat (first | (refine Br.yes w1 ?_; conv => whnf) | (first | (refine Br.yes (by first | with_reducible rfl | with_reducible exact beq_self_eq_true _ | rfl) ?_; conv => whnf) | (refine Br.no (by first | with_reducible rfl | with_reducible exact bne_self_eq_false _ | rfl) ?_; conv => whnf)))
            obtain ⟨p, e1, e2⟩ := index_rv (hp.slF (κ := κ16) (v := .slice a16 A.length c16) (by repeat (first | exact Rm.here | apply Rm.there))) .i64 g
            refine Om.of _ (e1) ?_
            conv => whnf
            repeat (first | (refine Br.yes w1 ?_; conv => whnf) | (first | (refine Br.yes (by first | with_reducible rfl | with_reducible exact beq_self_eq_true _ | rfl) ?_; conv => whnf) | (refine Br.no (by first | with_reducible rfl | with_reducible exact bne_self_eq_false _ | rfl) ?_; conv => whnf)))
            refine Om.of _ (e2) ?_
            conv => whnf
            repeat (first | (refine Br.yes w1 ?_; conv => whnf) | (first | (refine Br.yes (by first | with_reducible rfl | with_reducible exact beq_self_eq_true _ | rfl) ?_; conv => whnf) | (refine Br.no (by first | with_reducible rfl | with_reducible exact bne_self_eq_false _ | rfl) ?_; conv => whnf)))
            have hne : rvE r A[k] = false := by
              cases c : rvE r A[k] with
              | false => rfl
              | true =>
                rw [rvE_iff] at c
                have := hAb _ (List.getElem_mem g)
                rw [← c, hbb] at this; cases this
            refine Om.of _ (rv_eq r A[k] _) ?_
            conv => whnf
            rw [hne]
            repeat (first | (refine Br.yes w1 ?_; conv => whnf) | (first | (refine Br.yes (by first | with_reducible rfl | with_reducible exact beq_self_eq_true _ | rfl) ?_; conv => whnf) | (refine Br.no (by first | with_reducible rfl | with_reducible exact bne_self_eq_false _ | rfl) ?_; conv => whnf)))
            exact ⟨rfl, rfl, subK_ok ⟨rfl, rfl, rfl, rfl, rfl, rfl, rfl, rfl, rfl, rfl, trivial⟩⟩
          · have w1 : decide ((k : Int) < (A.length : Int)) = false := decide_eq_false (by omega)
            repeat (first | (refine Br.no w1 ?_; conv => whnf) | (first | (refine Br.yes (by first | with_reducible rfl | with_reducible exact beq_self_eq_true _ | rfl) ?_; conv => whnf) | (refine Br.no (by first | with_reducible rfl | with_reducible exact bne_self_eq_false _ | rfl) ?_; conv => whnf)))
            exact ⟨rfl, rfl, subK_ok ⟨rfl, rfl, rfl, rfl, rfl, rfl, rfl, rfl, rfl, rfl, trivial⟩⟩
        rintro e L' s' ⟨rfl, h1, hs_⟩
        obtain rfl := h1.symm
        refine Sm.weak _ hs_ ?_
        clear hs_
        refine Sm.ofW ?_
        conv => whnf
        refine Br.no rfl ?_
        conv => whnf
        refine hp.loadA (l := r.l.cells) (by repeat (first | exact Has.here | apply Has.there | (apply Has.swap; repeat (first | exact HasR.here | apply HasR.there)))) rfl (by rfl) rfl rfl ?_
        conv => whnf
        refine hp.loadA (l := lo.cells) (by repeat (first | exact Has.here | apply Has.there | (apply Has.swap; repeat (first | exact HasR.here | apply HasR.there)))) rfl (by rfl) rfl rfl ?_
        conv => whnf
        refine hp.call (below_spec hp.wf hrs.ok hlo.ok) ?_
        clear hp
        rintro _ s rfl hp _
        conv => whnf
        rw [hbb]
        refine Br.no rfl ?_
        conv => whnf
        exact ⟨rfl, k, hk, hd2, hp.pik (by repeat (first | exact Pik.nil | exact Pik.refl _ | exact Rm.here | apply Rm.there | apply Pik.cons | apply Pik.skip)), subK_ok ⟨rfl, rfl, rfl, rfl, rfl, rfl, rfl, rfl, trivial⟩⟩
    clear hp
    rintro e L' s ⟨rfl, k', hk', hd', hp, hs_⟩
    refine Sm.weak _ hs_ ?_
    clear hs_
    refine Sm.ofW ?_
    conv => whnf
    exact ⟨(k', i + 1), by (show B.length - (i + 1) < B.length - i); omega, subK_ok (by refine ⟨rfl, rfl, rfl, rfl, rfl, rfl, rfl, congrArg (fun x => some (Value.int .i64 x)) e6, trivial⟩), hk', hi2, hd', hp⟩
  · have hi2 : i = B.length := by have := of_decide_eq_false hq; omega
    subst hi2
    have hk2 : k = A.length := by
      rw [List.drop_length] at hd
      have := congrArg List.length hd
      rw [List.length_drop] at this
      simp at this
      omega
    subst hk2
    clear hd hk hi1 hq
    conv => whnf
    refine Sm.seqW ?_
    conv => whnf
    refine hp.loadA (l := lo.cells) (by repeat (first | exact Has.here | apply Has.there | (apply Has.swap; repeat (first | exact HasR.here | apply HasR.there)))) rfl (by rfl) rfl rfl ?_
    conv => whnf
    refine (vrun_spec hp.wf (hp.slF (κ := κx) (v := vx) (by repeat (first | exact Rm.here | apply Rm.there))) hok (by omega) hlo.ok false).mono ?_
    rintro r s' ⟨k1, w21, rfl, o⟩
    rw [hA, show outF false A = A.map (fun r => ⟨r.ac, r.am, r.l⟩) from if_neg (by decide), List.length_map] at o
    obtain ⟨κ21, hp'⟩ := hp.on k1 o
    clear hp k1 o
    have hp := hp'
    clear hp'
    conv => whnf
    refine Sm.live [11, 14, 15, 16, 18, 21, 22] ?_
    conv => whnf
    refine Sm.seqW ?_
    conv => whnf
    refine hp.loadA (l := lo.cells) (by repeat (first | exact Has.here | apply Has.there | (apply Has.swap; repeat (first | exact HasR.here | apply HasR.there)))) rfl (by rfl) rfl rfl ?_
    conv => whnf
    refine (vrun_spec hp.wf (hp.slF (κ := κx) (v := vx) (by repeat (first | exact Rm.here | apply Rm.there))) hok (by omega) hlo.ok true).mono ?_
    rintro r s' ⟨k1, w23, rfl, o⟩
    rw [hA, show outF true A = [⟨0, mkD (sumP A).1 (sumP A).2, joinL A⟩] from if_pos rfl] at o
    obtain ⟨κ23, hp'⟩ := hp.on k1 o
    clear hp k1 o
    have hp := hp'
    clear hp'
    conv => whnf
    refine Sm.live [11, 15, 16, 18, 21, 22, 23, 24] ?_
    conv => whnf
    refine Sm.seqW ?_
    conv => whnf
    refine hp.loadA (l := hi.cells) (by repeat (first | exact Has.here | apply Has.there | (apply Has.swap; repeat (first | exact HasR.here | apply HasR.there)))) rfl (by rfl) rfl rfl ?_
    conv => whnf
    refine (vrun_spec hp.wf (hp.slF (κ := κx) (v := vx) (by repeat (first | exact Rm.here | apply Rm.there))) hok (by omega) hhi.ok true).mono ?_
    rintro r s' ⟨k1, w25, rfl, o⟩
    rw [hB, show outF true B = [⟨0, mkD (sumP B).1 (sumP B).2, joinL B⟩] from if_pos rfl] at o
    obtain ⟨κ25, hp'⟩ := hp.on k1 o
    clear hp k1 o
    have hp := hp'
    clear hp'
    obtain ⟨a21, c21, rfl⟩ := (hp.slF (κ := κ21) (v := w21) (by repeat (first | exact Rm.here | apply Rm.there))).shape
    obtain ⟨a23, c23, rfl⟩ := (hp.slF (κ := κ23) (v := w23) (by repeat (first | exact Rm.here | apply Rm.there))).shape
    obtain ⟨a25, c25, rfl⟩ := (hp.slF (κ := κ25) (v := w25) (by repeat (first | exact Rm.here | apply Rm.there))).shape
    conv => whnf
    refine Sm.live [16, 18, 21, 22, 23, 24, 25, 26] ?_
    conv => whnf
    have hjA : (joinL A).sm := joinL_sm fun r hr => (hAok r hr).l
    have hjB : (joinL B).sm := joinL_sm fun r hr => (hBok r hr).l
    have hjj : belowF (joinL A) (joinL B) = true := joinL_below (fun r hr => (hAok r hr).l) hjB fun r hr => by
      rw [hAB] at hr
      exact below_joinL (fun r hr => (hBok r hr).l) r (List.mem_filter.1 hr).1
    refine Sm.seq ?_
    refine Sm.seqW ?_
    conv => whnf
    refine ⟨[0, 1, 3, 7, 7, 23, 63, 127, 255, 511, 1023, 2047, 4095, 8191, 16383, 32767, 65535, 131071, 262143, 524287, 1048575, 2097151, 4194303, 2097151, 10485759, 33554431, 67108863, 134217727, 268435455, 536870911, 1073741823, 2147483647, 4294967295, 8589934591, 17179869183, 34359738367, 68719476735, 137438953471, 274877906943, 549755813887, 1099511627775, 2199023255551, 274877906943, 4672924418047, 13469017440255, 31061203484671, 70368744177663, 140737488355327, 281474976710655], by decide +kernel, by decide +kernel, ?_⟩
    conv => whnf
    refine hp.rst.call (vknown_spec hp.rst.wf) ?_
    rintro _ s1 rfl h1 k1
    conv => whnf
    refine hp.dkN h1 k1 ?_
    clear hp h1 k1
    intro s hp
    conv => whnf
    repeat (first | (refine Br.yes (by first | with_reducible rfl | with_reducible exact beq_self_eq_true _ | rfl) ?_; conv => whnf) | (refine Br.no (by first | with_reducible rfl | with_reducible exact bne_self_eq_false _ | rfl) ?_; conv => whnf))
    obtain ⟨b1, off1, f1, -, -, f4⟩ := index_ovF (l := [⟨0, mkD (sumP A).1 (sumP A).2, joinL A⟩]) (hp.slF (κ := κ23) (v := .slice a23 1 c23) (by repeat (first | exact Rm.here | apply Rm.there))) .i64 (i := 0) Nat.zero_lt_one
    replace f4 : _ = some (joinL A).val := f4
    refine Om.of _ (f1) ?_
    conv => whnf
    repeat (first | (refine Br.yes (by first | with_reducible rfl | with_reducible exact beq_self_eq_true _ | rfl) ?_; conv => whnf) | (refine Br.no (by first | with_reducible rfl | with_reducible exact bne_self_eq_false _ | rfl) ?_; conv => whnf))
    refine Om.of _ (f4) ?_
    conv => whnf
    repeat (first | (refine Br.yes (by first | with_reducible rfl | with_reducible exact beq_self_eq_true _ | rfl) ?_; conv => whnf) | (refine Br.no (by first | with_reducible rfl | with_reducible exact bne_self_eq_false _ | rfl) ?_; conv => whnf))
    obtain ⟨b2, off2, g1, -, -, g4⟩ := index_ovF (l := [⟨0, mkD (sumP B).1 (sumP B).2, joinL B⟩]) (hp.slF (κ := κ25) (v := .slice a25 1 c25) (by repeat (first | exact Rm.here | apply Rm.there))) .i64 (i := 0) Nat.zero_lt_one
    replace g4 : _ = some (joinL B).val := g4
    refine Om.of _ (g1) ?_
    conv => whnf
    repeat (first | (refine Br.yes (by first | with_reducible rfl | with_reducible exact beq_self_eq_true _ | rfl) ?_; conv => whnf) | (refine Br.no (by first | with_reducible rfl | with_reducible exact bne_self_eq_false _ | rfl) ?_; conv => whnf))
    refine Om.of _ (g4) ?_
    conv => whnf
    repeat (first | (refine Br.yes (by first | with_reducible rfl | with_reducible exact beq_self_eq_true _ | rfl) ?_; conv => whnf) | (refine Br.no (by first | with_reducible rfl | with_reducible exact bne_self_eq_false _ | rfl) ?_; conv => whnf))
    clear f1 f4 g1 g4
    refine hp.rst.call (below_spec hp.rst.wf hjA.ok hjB.ok) ?_
    rintro _ s1 rfl h1 k1
    conv => whnf
    refine hp.dkN h1 k1 ?_
    clear hp h1 k1
    intro s hp
    conv => whnf
    rw [hjj]
    repeat (first | (refine Br.yes (by first | with_reducible rfl | with_reducible exact beq_self_eq_true _ | rfl) ?_; conv => whnf) | (refine Br.no (by first | with_reducible rfl | with_reducible exact bne_self_eq_false _ | rfl) ?_; conv => whnf))
    refine Sm.live [16, 21, 23, 150] ?_
    conv => whnf
    refine Sm.ofW ?_
    conv => whnf
    refine Br.no rfl ?_
    conv => whnf
    refine Sm.seqW ?_
    conv => whnf
    refine hp.call (rof_spec hp.wf (n := 0) (by unfold inR; decide) 0) ?_
    clear hp
    rintro _ s rfl hp _
    conv => whnf
    refine hp.alloc (cs := Dc.zero.cells) (e := 4) rfl rfl rfl rfl rfl ?_
    clear hp
    intro p27 s hp _
    conv => whnf
    have h0 : ofD 0 0 = mkD (sumP (A.take 0)).1 (sumP (A.take 0)).2 := by rw [List.take_zero]; kernel_rfl
    rw [h0]
    refine hp.storeW (vs := (mkD (sumP (A.take 0)).1 (sumP (A.take 0)).2).cells) rfl (by repeat (first | exact Rm.here | apply Rm.there)) (by first | exact C2_same _ _ _ _ | exact C4_same _ _ _ _ _ _ _ _ | exact Dc_same _ _ | rfl) rfl rfl rfl ?_
    clear hp
    intro s hp _
    conv => whnf
    refine Sm.live [16, 21, 23, 27] ?_
    conv => whnf
    refine Sm.seq ?_
    refine Sm.seqW ?_
    conv => whnf
    refine Sm.live [21, 23, 27, 152, 153, 154] ?_
    conv => whnf
    refine Sm.block ?_
    refine Sm.loop ?_
    refine Lp.ofS (α := Nat) (fun x => [(21, .slice a21 A.length c21), (23, .slice a23 1 c23), (27, .pointer (some ⟨p27, 0, none⟩)), (152, .slice a16 A.length c16), (153, .int .i64 (A.length : Int)), (154, .int .i64 (x : Int))])
      (fun x s' => x ≤ A.length ∧ Hp (fun _ => False) s0 [slA none v 1 l.length (l.map (Value.int .i64))] [blkA p27 p27 (mkD (sumP (A.take x)).1 (sumP (A.take x)).2).cells 4, onA κ23 (.slice a23 1 c23) 7 1 (ovCells [⟨0, mkD (sumP A).1 (sumP A).2, joinL A⟩]), onA κ21 (.slice a21 A.length c21) 7 A.length (ovCells (A.map fun r => ⟨r.ac, r.am, r.l⟩)), onA κ16 (.slice a16 A.length c16) 10 A.length (rvCells A)] s')
      (fun x => A.length - x) ?_ 0 (subK_ok (by refine ⟨rfl, rfl, rfl, rfl, rfl, rfl, trivial⟩)) ⟨Nat.zero_le _, hp.pik (by repeat (first | exact Pik.nil | exact Pik.refl _ | exact Rm.here | apply Rm.there | apply Pik.cons | apply Pik.skip))⟩
    clear hp h0
    rintro i s ⟨hi1, hp⟩
    refine Sm.seqW ?_
    conv => whnf
    refine Sm.seq ?_
    refine Sm.ofW ?_
    conv => whnf
    refine Br.mk (fun hq => ?_) (fun hq => ?_)
    · have hi2 : i < A.length := by have := of_decide_eq_true hq; omega
      have e6 : IntKind.i64.wrap ((i : Int) + 1) = ((i + 1 : Nat) : Int) := by rw [wi64 (by omega) (by omega)]; omega
      have hst := sumP_take A hi2
      obtain ⟨s1, s2, s3⟩ := sum_take_ok hAok hAn i
      conv => whnf
      refine Sm.seq ?_
      refine Sm.block ?_
      refine Sm.seqW ?_
      conv => whnf
      obtain ⟨p, e1, e2⟩ := index_rv (hp.slF (κ := κ16) (v := .slice a16 A.length c16) (by repeat (first | exact Rm.here | apply Rm.there))) .i64 hi2
      refine Om.of _ (e1) ?_
      conv => whnf
      refine Om.of _ (e2) ?_
      conv => whnf
      clear e1 e2
      have hci : ∃ h, (A.map fun r => (⟨r.ac, r.am, r.l⟩ : Ov))[i]'h = ⟨A[i].ac, A[i].am, A[i].l⟩ := ⟨by rw [List.length_map]; exact hi2, List.getElem_map _⟩
      have hro := hAok _ (List.getElem_mem hi2)
      generalize A[i] = r at hst hro hci
      obtain ⟨hci1, hci2⟩ := hci
      obtain ⟨q1, q2, q3, q4⟩ := pr_ok hro
      refine hp.alloc (cs := Rv.cells ⟨0, 0, 0, 0, ⟨false, 0, 0⟩, ⟨0, 0⟩⟩) (e := 10) rfl rfl rfl rfl rfl ?_
      clear hp
      intro p29 s hp _
      conv => whnf
      refine hp.storeW (vs := r.cells) (C := Rv.cells ⟨0, 0, 0, 0, ⟨false, 0, 0⟩, ⟨0, 0⟩⟩) rfl (by repeat (first | exact Rm.here | apply Rm.there)) (by rfl) rfl rfl rfl ?_
      clear hp
      intro s hp _
      conv => whnf
      generalize hP : sumP (A.take i) = P at hst s1 s2 s3 hp
      refine Sm.live [21, 23, 27, 28, 29, 152, 153, 154] ?_
      conv => whnf
      refine Sm.seqW ?_
      conv => whnf
      refine hp.loadA (l := (mkD P.1 P.2).cells) (by repeat (first | exact Has.here | apply Has.there | (apply Has.swap; repeat (first | exact HasR.here | apply HasR.there)))) rfl (by rfl) rfl rfl ?_
      conv => whnf
      refine hp.loadA (l := r.am.cells) (by repeat (first | exact Has.here | apply Has.there | (apply Has.swap; repeat (first | exact HasR.here | apply HasR.there)))) rfl (by rfl) rfl rfl ?_
      conv => whnf
      have hadd := addF_P s1 (by omega : r.pr.1.natAbs ≤ 1000000000) s2 s3 q3 q4
      rw [← q1] at hadd
      refine hp.call (decAdd_spec hp.wf (mkD P.1 P.2) r.am (mkD_cu s1) (by rw [q1]; exact mkD_cu (by omega))) ?_
      clear hp
      rw [hadd, ← hst]
      rintro _ s rfl hp _
      conv => whnf
      refine hp.storeW (vs := (mkD (sumP (A.take (i + 1))).1 (sumP (A.take (i + 1))).2).cells) (C := (mkD P.1 P.2).cells) rfl (by repeat (first | exact Rm.here | apply Rm.there)) (Dc_same _ _) rfl rfl rfl ?_
      clear hp
      intro s hp _
      conv => whnf
      refine Sm.live [21, 23, 27, 28, 29, 152, 153, 154] ?_
      conv => whnf
      refine Sm.seqW ?_
      conv => whnf
      refine ⟨[0, 0, 3, 7, 0, 16, 0, 64, 0, 256, 1008, 2047], by decide +kernel, by decide +kernel, ?_⟩
      conv => whnf
      obtain ⟨b4, off4, f1, f2, -, -⟩ := index_ovF (l := A.map fun r => ⟨r.ac, r.am, r.l⟩) (by rw [List.length_map]; exact hp.slF (κ := κ21) (v := .slice a21 A.length c21) (by repeat (first | exact Rm.here | apply Rm.there))) .i64 hci1
      rw [hci2] at f2
      refine Om.of _ (f1) ?_
      conv => whnf
      refine Om.of _ (f2) ?_
      conv => whnf
      refine hp.load (v := .int .i64 r.ac) (by repeat (first | exact Has.here | apply Has.there | (apply Has.swap; repeat (first | exact HasR.here | apply HasR.there)))) (by rfl) rfl rfl rfl ?_
      conv => whnf
      refine hp.loadA (l := r.am.cells) (by repeat (first | exact Has.here | apply Has.there | (apply Has.swap; repeat (first | exact HasR.here | apply HasR.there)))) rfl (by rfl) rfl rfl ?_
      conv => whnf
      refine hp.loadA (l := r.l.cells) (by repeat (first | exact Has.here | apply Has.there | (apply Has.swap; repeat (first | exact HasR.here | apply HasR.there)))) rfl (by rfl) rfl rfl ?_
      conv => whnf
      refine Om.of _ (ov_ne ⟨r.ac, r.am, r.l⟩ ⟨r.ac, r.am, r.l⟩ _) ?_
      conv => whnf
      rw [ovE_self]
      conv => whnf
      refine Sm.live [21, 23, 27, 152, 153, 154, 177] ?_
      conv => whnf
      refine Sm.ofW ?_
      conv => whnf
      refine Br.no rfl ?_
      conv => whnf
      refine Sm.ofW ?_
      conv => whnf
      exact ⟨i + 1, by (show A.length - (i + 1) < A.length - i); omega, subK_ok (by refine ⟨rfl, rfl, rfl, rfl, rfl, congrArg (fun x => some (Value.int .i64 x)) e6, trivial⟩), hi2, hp.pik (by repeat (first | exact Pik.nil | exact Pik.refl _ | exact Rm.here | apply Rm.there | apply Pik.cons | apply Pik.skip))⟩
    · have hi2 : i = A.length := by have := of_decide_eq_false hq; omega
      subst hi2
      rw [List.take_of_length_le (Nat.le_refl _)] at hp
      conv => whnf
      refine Sm.seqW ?_
      conv => whnf
      refine ⟨[0, 1, 3, 7, 0, 31, 63], by decide +kernel, by decide +kernel, ?_⟩
      conv => whnf
      obtain ⟨b5, off5, f1, -, f3, -⟩ := index_ovF (l := [⟨0, mkD (sumP A).1 (sumP A).2, joinL A⟩]) (hp.slF (κ := κ23) (v := .slice a23 1 c23) (by repeat (first | exact Rm.here | apply Rm.there))) .i64 (i := 0) Nat.zero_lt_one
      replace f3 : _ = some (mkD (sumP A).1 (sumP A).2).val := f3
      refine Om.of _ (f1) ?_
      conv => whnf
      refine Om.of _ (f3) ?_
      conv => whnf
      refine hp.loadA (l := (mkD (sumP A).1 (sumP A).2).cells) (by repeat (first | exact Has.here | apply Has.there | (apply Has.swap; repeat (first | exact HasR.here | apply HasR.there)))) rfl (by rfl) rfl rfl ?_
      conv => whnf
      refine Om.of _ (dc_eq (mkD (sumP A).1 (sumP A).2) (mkD (sumP A).1 (sumP A).2) _) ?_
      conv => whnf
      rw [eqD_self]
      conv => whnf
      refine Sm.live [10] ?_
      conv => whnf
      refine Sm.ofW ?_
      conv => whnf
      exact ⟨rfl⟩
end Go.Ev
end
