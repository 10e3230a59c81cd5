/- Several texts in one: what the law's text leans on, one behind the other. No condition but those that each theorem names. -/
import Derived.Test.YtknhjdkjjfijlaaGreatDoorGEntryTells1
import Derived.Test.YtknhjdkjjfijlaaGreatDoorKEntryTellsS6
import Derived.Test.YtknhjdkjjfijlaaGreatDoorKEntryTellsF1
import Derived.Stop.LaidErr
import Derived.LaidSub
noncomputable section
namespace Go.Ev
open Go.Proofs
set_option linter.unusedVariables false
set_option linter.unusedSectionVars false
set_option maxRecDepth 100000
/- Four words: dec.cmp, dec.halves. No condition. -/
section
variable [Lk]
theorem wd_split (a i : Nat) : a / 2 ^ (64 * i) = 2 ^ 64 * (a / 2 ^ (64 * (i + 1))) + wd a i := by
 unfold wd
 rw [show 64 * (i + 1) = 64 * i + 64 by omega, Nat.pow_add, ← Nat.div_div_eq_div_mul]
 exact (Nat.div_add_mod _ _).symm
theorem cmpI_word {a b i : Nat} (h : a / 2 ^ (64 * (i + 1)) = b / 2 ^ (64 * (i + 1))) : (wd a i < wd b i → cmpI a b = -1) ∧ (wd b i < wd a i → cmpI a b = 1) ∧ (wd a i = wd b i → a / 2 ^ (64 * i) = b / 2 ^ (64 * i)) := by
 have ha := wd_split a i
 have hb := wd_split b i
 rw [h] at ha
 have lt : ∀ x y : Nat, x / 2 ^ (64 * i) < y / 2 ^ (64 * i) → x < y := fun x y g => by
  rcases Nat.lt_or_ge x y with k | k
  · exact k
  · have := Nat.div_le_div_right (c := 2 ^ (64 * i)) k; omega
 refine ⟨fun g => ?_, fun g => ?_, fun g => by omega⟩
 · have := lt a b (by omega)
   unfold cmpI; rw [if_pos this]
 · have := lt b a (by omega)
   unfold cmpI; rw [if_neg (by omega), if_neg (by omega)]
theorem wd_get (Q i : Nat) (hi : i < 4) : (natU (ws Q))[i]? = some (.int .u64 ((wd Q i : Nat) : Int)) := by
 obtain ⟨h1, h2⟩ := ws_get Q i hi
 rw [natU_get _ _ h1, h2]
theorem dcmp_spec {z : St} (wf : WF z) {a b : Nat} (ha : a < w256) (hb : b < w256) :
  Cw Tryz.prog 71 [W4 a, W4 b] z fun r s' => K0 z s' ∧ r = .int .i64 (cmpI a b) := by
 have hp : Hp (fun _ => False) z [] [] z := Hp.start _ wf _ (by simp)
 have top : ∀ x, x < w256 → x / 2 ^ (64 * 4) = 0 := fun x h => Nat.div_eq_of_lt h
 refine Cw.enterS Tryz.func71 rfl rfl ?_
 refine Sm.seqW ?_
 conv => whnf
 refine hp.var (cs := natU (ws a)) (e := 1) (w4_ws ha) rfl ?_
 clear hp
 intro p1 s hp _
 conv => whnf
 refine hp.var (cs := natU (ws b)) (e := 1) (w4_ws hb) rfl ?_
 clear hp
 intro p2 s hp _
 conv => whnf
 refine Sm.live [2, 3] ?_
 conv => whnf
 refine Sm.seq ?_
 refine Sm.seqW ?_
 conv => whnf
 refine Sm.block ?_
 refine Sm.loop ?_
 refine Lp.ofS (α := Nat) (fun k => [(2, .pointer (some ⟨p1, 0, none⟩)), (3, .pointer (some ⟨p2, 0, none⟩)), (5, .int .i64 ((k : Int) - 1))])
  (fun k s' => k ≤ 4 ∧ a / 2 ^ (64 * k) = b / 2 ^ (64 * k) ∧ Hp (fun _ => False) z [] [blkA p2 p2 (natU (ws b)) 1, blkA p1 p1 (natU (ws a)) 1] s') (fun k => k) ?_ 4 (subK_ok (by refine ⟨rfl, rfl, rfl, trivial⟩)) ⟨Nat.le_refl _, by rw [top a ha, top b hb], hp.pik (by repeat (first | exact Pik.nil | exact Pik.refl _ | exact Rm.here | apply Rm.there | apply Pik.cons | apply Pik.skip))⟩
 clear hp
 rintro k s ⟨hk, hE, hp⟩
 cases k with
 | zero =>
   refine Sm.seq ?_
   refine Sm.seqW ?_
   conv => whnf
   refine Sm.ofW ?_
   conv => whnf
   refine Br.no (rfl) ?_
   conv => whnf
   refine Sm.seqW ?_
   conv => whnf
   refine Sm.ofW ?_
   conv => whnf
   refine ⟨hp.fr, congrArg (Value.int .i64) ?_⟩
   have : a = b := by simpa using hE
   rw [this]
   unfold cmpI
   simp
 | succ i =>
   obtain ⟨c1, c2, c3⟩ := cmpI_word hE
   have hi : i < 4 := by omega
   have hk0 : decide ((i : Int) ≥ 0) = true := decide_eq_true (by omega)
   refine Sm.weak [(2, .pointer (some ⟨p1, 0, none⟩)), (3, .pointer (some ⟨p2, 0, none⟩)), (5, .int .i64 (i : Int))] (subK_ok ⟨rfl, rfl, congrArg (fun x => some (Value.int .i64 x)) (show ((i + 1 : Nat) : Int) - 1 = (i : Int) by push_cast; omega), trivial⟩) ?_
   have ix : ∀ b : Nat, evIndexAddr Tryz.prog 102 (.pointer (some ⟨b, 0, none⟩)) (.int .i64 (i : Int)) = some (.pointer (some ⟨b, 0 + i, none⟩)) := fun b => ixA Tryz.underlying102 (by rfl) rfl .i64 hi
   have g1 : (natU (ws a))[0 + i]? = some (.int .u64 ((wd a i : Nat) : Int)) := by rw [Nat.zero_add]; exact wd_get a i hi
   have g2 : (natU (ws b))[0 + i]? = some (.int .u64 ((wd b i : Nat) : Int)) := by rw [Nat.zero_add]; exact wd_get b i hi
   refine Sm.seq ?_
   refine Sm.seqW ?_
   conv => whnf
   refine Sm.ofW ?_
   conv => whnf
   refine Br.yes (hk0) ?_
   conv => whnf
   refine Sm.seq ?_
   refine Sm.block ?_
   refine Sm.seqW ?_
   conv => whnf
   refine ⟨[0, 1, 3, 0, 8, 24, 63], by decide +kernel, by decide +kernel, ?_⟩
   conv => whnf
   refine Om.of _ (ix p1) ?_
   conv => whnf
   refine hp.load .d g1 rfl rfl rfl ?_
   conv => whnf
   refine Om.of _ (ix p2) ?_
   conv => whnf
   refine hp.load .d g2 rfl rfl rfl ?_
   conv => whnf
   refine Sm.ofW ?_
   conv => whnf
   by_cases h1 : wd a i = wd b i
   · refine Br.no (bne_eq_false_iff_eq.2 (congrArg Int.ofNat h1)) ?_
     conv => whnf
     refine Sm.ofW ?_
     conv => whnf
     have ei : IntKind.i64.wrap ((i : Int) - 1) = (i : Int) - 1 := wi64 (by omega) (by omega)
     exact ⟨i, Nat.lt_succ_self i, subK_ok (by refine ⟨rfl, rfl, congrArg (fun x => some (Value.int .i64 x)) ei, trivial⟩), by omega, c3 h1, hp⟩
   · refine Br.yes (bne_iff_ne.2 (fun h => h1 (Int.ofNat.inj h))) ?_
     conv => whnf
     refine ⟨[0, 1, 3, 0, 8, 24, 63], by decide +kernel, by decide +kernel, ?_⟩
     conv => whnf
     refine Om.of _ (ix p1) ?_
     conv => whnf
     refine hp.load .d g1 rfl rfl rfl ?_
     conv => whnf
     refine Om.of _ (ix p2) ?_
     conv => whnf
     refine hp.load .d g2 rfl rfl rfl ?_
     conv => whnf
     by_cases h2 : wd a i < wd b i
     · refine Br.yes (decide_eq_true (by omega)) ?_
       conv => whnf
       exact ⟨hp.fr, congrArg (Value.int .i64) (c1 h2).symm⟩
     · refine Br.no (decide_eq_false (by omega)) ?_
       conv => whnf
       exact ⟨hp.fr, congrArg (Value.int .i64) (c2 (by omega)).symm⟩
theorem dhalves_spec {z : St} (wf : WF z) {n : Nat} (hn : n < w256) :
  Cw Tryz.prog 115 [W4 n] z fun r s' => K0 z s' ∧ r = .tuple #[W2 (n % w128), W2 (n / w128)] := by
 have hp : Hp (fun _ => False) z [] [] z := Hp.start _ wf _ (by simp)
 have e1 : n % w128 % w64 = n % w64 ∧ n % w128 / w64 = n / w64 % w64 ∧ n / w128 / w64 = n / w192 := by simp only [w64, w128, w192]; omega
 refine Cw.enterS Tryz.func115 rfl rfl ?_
 refine Sm.seqW ?_
 conv => whnf
 refine hp.var (cs := C4 (n % w64) (n / w64 % w64) (n / w128 % w64) (n / w192)) (e := 1) rfl rfl ?_
 clear hp
 intro p1 s hp _
 conv => whnf
 refine hp.alloc (cs := C2 0 0) (e := 1) rfl rfl rfl rfl rfl ?_
 clear hp
 intro p2 s hp _
 conv => whnf
 refine hp.alloc (cs := C2 0 0) (e := 1) rfl rfl rfl rfl rfl ?_
 clear hp
 intro p3 s hp _
 conv => whnf
 refine Sm.live [1, 2, 3] ?_
 conv => whnf
 refine Sm.seqW ?_
 conv => whnf
 refine ⟨[0, 1, 0, 4, 15, 0, 32, 0, 128, 480, 31, 2047], by decide +kernel, by decide +kernel, ?_⟩
 conv => whnf
 refine Om.of _ (rfl) ?_
 conv => whnf
 refine hp.load (v := .int .u64 ((n % w64 : Nat) : Int)) .d (by rfl) rfl rfl rfl ?_
 conv => whnf
 refine Om.of _ (rfl) ?_
 conv => whnf
 refine hp.load (v := .int .u64 ((n / w64 % w64 : Nat) : Int)) .d (by rfl) rfl rfl rfl ?_
 conv => whnf
 refine Om.of _ (rfl) ?_
 conv => whnf
 refine hp.load (v := .int .u64 ((n / w128 % w64 : Nat) : Int)) .d (by rfl) rfl rfl rfl ?_
 conv => whnf
 refine Om.of _ (rfl) ?_
 conv => whnf
 refine hp.load (v := .int .u64 ((n / w192 : Nat) : Int)) .d (by rfl) rfl rfl rfl ?_
 conv => whnf
 have hp0 := hp
 refine hp.rst.storeW (vs := C2 (n % w64) (n / w64 % w64)) rfl .d (by rfl) rfl rfl rfl ?_
 intro s1 h1 l1
 conv => whnf
 refine hp.dkW h1 l1 ?_
 clear hp h1 l1
 intro s hp
 conv => whnf
 refine ⟨hp0.sa hp .d .d, ?_⟩
 conv => whnf
 refine ⟨hp0.sa hp .d .d, ?_⟩
 conv => whnf
 clear hp0
 refine hp.rst.storeW (vs := C2 (n / w128 % w64) (n / w192)) rfl .d csx rfl rfl rfl ?_
 intro s1 h1 l1
 conv => whnf
 refine hp.dkW h1 l1 ?_
 clear hp h1 l1
 intro s hp
 conv => whnf
 refine Sm.live [2, 3] ?_
 conv => whnf
 refine Sm.ofW ?_
 conv => whnf
 refine hp.loadA (l := C2 (n % w64) (n / w64 % w64)) .d rfl (by rfl) rfl rfl ?_
 conv => whnf
 refine hp.loadA (l := C2 (n / w128 % w64) (n / w192)) .d rfl (by rfl) rfl rfl ?_
 conv => whnf
 refine ⟨hp.fr, ?_⟩
 unfold W2 A2
 rw [e1.1, e1.2.1, e1.2.2]
 rfl
end

/- Four words: dec.plus, dec.less. No condition. -/
section
variable [Lk]
theorem compl_u64 {x : Nat} (h : x < w64) : IntKind.u64.wrap (((BitVec.ofInt IntKind.u64.bits (if IntKind.u64.signed = true then -1 else IntKind.u64.max) ^^^ BitVec.ofInt IntKind.u64.bits (x : Int)).toNat : Nat) : Int) = ((w64 - 1 - x : Nat) : Int) := by
 have e : IntKind.u64.bits = 64 := rfl
 have e2 : (if IntKind.u64.signed = true then -1 else IntKind.u64.max) = ((18446744073709551615 : Nat) : Int) := rfl
 rw [e, e2, bv_nat, bv_nat]
 have e3 : BitVec.ofNat 64 18446744073709551615 ^^^ BitVec.ofNat 64 x = ~~~ BitVec.ofNat 64 x := by
  rw [show BitVec.ofNat 64 18446744073709551615 = BitVec.allOnes 64 by decide, BitVec.allOnes_xor]
 rw [e3, wrap_u64, BitVec.toNat_not, BitVec.toNat_ofNat, Nat.mod_eq_of_lt (show x < 2 ^ 64 from h)]
 simp only [w64] at *
 omega
theorem w4_parts {h l : Nat} (hl : l < w128) : W4 (h * w128 + l) = A4 (l % w64) (l / w64) (h % w64) (h / w64) := by
 have e : (h * w128 + l) % w64 = l % w64 ∧ (h * w128 + l) / w64 % w64 = l / w64 ∧ (h * w128 + l) / w128 % w64 = h % w64 ∧ (h * w128 + l) / w192 = h / w64 := by
  simp only [w64, w128, w192] at *; omega
 unfold W4
 rw [e.1, e.2.1, e.2.2.1, e.2.2.2]
theorem words_of2 {x y : Nat} (hx : x < w64) (hy : y < w64) : A2 x y = W2 (x + w64 * y) := by
 have e : (x + w64 * y) % w64 = x ∧ (x + w64 * y) / w64 = y := by simp only [w64] at *; omega
 unfold W2
 rw [e.1, e.2]
theorem lSub_sub {z : St} (wf : WF z) {a b c : Nat} (ha : a < w128) (hb : b < w128) (h : b ≤ a) (hc : c = a - b) : Cw Tryz.prog 117 [W2 a, W2 b] z fun r s' => K0 z s' ∧ r = .tuple #[W2 c, .bool true] := by
 subst hc; exact lSub_ok wf ha hb h
theorem lAdd_add {z : St} (wf : WF z) {a b c : Nat} (ha : a < w128) (hb : b < w128) (hc : c = a + b) (h : c < w128) : Cw Tryz.prog 116 [W2 a, W2 b] z fun r s' => K0 z s' ∧ r = .tuple #[W2 c, .bool true] := by
 subst hc; exact lAdd_ok wf ha hb h
theorem lSub_no {z : St} (wf : WF z) {a b : Nat} (ha : a < w128) (hb : b < w128) (h : a < b) : Cw Tryz.prog 117 [W2 a, W2 b] z fun r s' => K0 z s' ∧ r = .tuple #[W2 0, .bool false] :=
 (lSub_spec wf ha hb).mono fun r s' ⟨h1, h2⟩ => ⟨h1, h2.trans (if_neg (by omega))⟩
theorem one_lt : 1 < w128 := by decide
theorem dplus_spec {z : St} (wf : WF z) {a b : Nat} (ha : a < w256 / 4) (hb : b < w256 / 4) :
  Cw Tryz.prog 70 [W4 a, W4 b] z fun r s' => K0 z s' ∧ r = W4 (a + b) := by
 have hp : Hp (fun _ => False) z [] [] z := Hp.start _ wf _ (by simp)
 have a1 : a < w256 := by simp only [w256] at *; omega
 have b1 : b < w256 := by simp only [w256] at *; omega
 obtain ⟨q, hq⟩ : ∃ q, q = a / w128 := ⟨_, rfl⟩
 obtain ⟨p, hP⟩ : ∃ p, p = a % w128 := ⟨_, rfl⟩
 obtain ⟨t, ht⟩ : ∃ q, q = b / w128 := ⟨_, rfl⟩
 obtain ⟨r, hr⟩ : ∃ p, p = b % w128 := ⟨_, rfl⟩
 have aq : q < w128 / 4 := by simp only [w128, w256] at *; omega
 have bq : t < w128 / 4 := by simp only [w128, w256] at *; omega
 have ar : p < w128 := hP ▸ Nat.mod_lt _ (by decide)
 have br : r < w128 := hr ▸ Nat.mod_lt _ (by decide)
 have hab : a + b = q * w128 + p + (t * w128 + r) := by simp only [w128] at *; omega
 have hfin : ∀ h l : Nat, l < w128 → h * w128 + l = a + b → A4 (l % w64) (l / w64) (h % w64) (h / w64) = W4 (a + b) := fun h l hl e => by rw [← e, w4_parts hl]
 refine Cw.enterS Tryz.func70 rfl rfl ?_
 refine Sm.seqW ?_
 conv => whnf
 refine hp.var (cs := C4 (a % w64) (a / w64 % w64) (a / w128 % w64) (a / w192)) (e := 1) rfl rfl ?_
 clear hp
 intro p2 s hp _
 conv => whnf
 refine hp.var (cs := C4 (b % w64) (b / w64 % w64) (b / w128 % w64) (b / w192)) (e := 1) rfl rfl ?_
 clear hp
 intro p3 s hp _
 conv => whnf
 refine hp.alloc (cs := C4 0 0 0 0) (e := 1) rfl rfl rfl rfl rfl ?_
 clear hp
 intro p4 s hp _
 conv => whnf
 refine Sm.live [2, 3, 4] ?_
 conv => whnf
 refine Sm.seqW ?_
 conv => whnf
 refine hp.loadA (l := C4 (a % w64) (a / w64 % w64) (a / w128 % w64) (a / w192)) .d rfl (by rfl) rfl rfl ?_
 conv => whnf
 refine hp.call (dhalves_spec hp.wf a1) ?_
 clear hp
 rintro _ s rfl hp _
 conv => whnf
 rw [← hq, ← hP]
 refine hp.alloc (cs := C2 0 0) (e := 1) rfl rfl rfl rfl rfl ?_
 clear hp
 intro p5 s hp _
 conv => whnf
 refine hp.alloc (cs := C2 0 0) (e := 1) rfl rfl rfl rfl rfl ?_
 clear hp
 intro p6 s hp _
 conv => whnf
 refine hp.storeW (vs := C2 (p % w64) (p / w64)) rfl .d csx rfl rfl rfl ?_
 clear hp
 intro s hp _
 conv => whnf
 refine hp.storeW (vs := C2 (q % w64) (q / w64)) rfl .d csx rfl rfl rfl ?_
 clear hp
 intro s hp _
 conv => whnf
 refine Sm.live [3, 4, 5, 6] ?_
 conv => whnf
 refine Sm.seqW ?_
 conv => whnf
 refine hp.loadA (l := C4 (b % w64) (b / w64 % w64) (b / w128 % w64) (b / w192)) .d rfl (by rfl) rfl rfl ?_
 conv => whnf
 refine hp.call (dhalves_spec hp.wf b1) ?_
 clear hp
 rintro _ s rfl hp _
 conv => whnf
 rw [← ht, ← hr]
 refine hp.alloc (cs := C2 0 0) (e := 1) rfl rfl rfl rfl rfl ?_
 clear hp
 intro p7 s hp _
 conv => whnf
 refine hp.alloc (cs := C2 0 0) (e := 1) rfl rfl rfl rfl rfl ?_
 clear hp
 intro p8 s hp _
 conv => whnf
 refine hp.storeW (vs := C2 (r % w64) (r / w64)) rfl .d csx rfl rfl rfl ?_
 clear hp
 intro s hp _
 conv => whnf
 refine hp.storeW (vs := C2 (t % w64) (t / w64)) rfl .d csx rfl rfl rfl ?_
 clear hp
 intro s hp _
 conv => whnf
 refine Sm.live [4, 5, 6, 7, 8] ?_
 conv => whnf
 refine Sm.seqW ?_
 conv => whnf
 refine hp.loadA (l := C2 (q % w64) (q / w64)) .d rfl (by rfl) rfl rfl ?_
 conv => whnf
 refine hp.loadA (l := C2 (t % w64) (t / w64)) .d rfl (by rfl) rfl rfl ?_
 conv => whnf
 refine hp.call (lAdd_add hp.wf (a := q) (b := t) (c := q + t) (by simp only [w128] at *; omega) (by simp only [w128] at *; omega) rfl (by simp only [w128] at *; omega)) ?_
 clear hp
 rintro _ s rfl hp _
 conv => whnf
 refine hp.alloc (cs := C2 0 0) (e := 1) rfl rfl rfl rfl rfl ?_
 clear hp
 intro p9 s hp _
 conv => whnf
 refine hp.storeW (vs := C2 ((q + t) % w64) ((q + t) / w64)) rfl .d csx rfl rfl rfl ?_
 clear hp
 intro s hp _
 conv => whnf
 refine Sm.live [4, 5, 7, 9] ?_
 conv => whnf
 refine Sm.seqW ?_
 conv => whnf
 refine hp.loadA (l := C2 (p % w64) (p / w64)) .d rfl (by rfl) rfl rfl ?_
 conv => whnf
 refine hp.loadA (l := C2 (r % w64) (r / w64)) .d rfl (by rfl) rfl rfl ?_
 conv => whnf
 by_cases hlt : p + r < w128
 · refine hp.call (lAdd_add hp.wf (a := p) (b := r) (c := p + r) ar br rfl hlt) ?_
   clear hp
   rintro _ s rfl hp _
   conv => whnf
   refine hp.alloc (cs := C2 0 0) (e := 1) rfl rfl rfl rfl rfl ?_
   clear hp
   intro pb s hp _
   conv => whnf
   refine hp.storeW (vs := C2 ((p + r) % w64) ((p + r) / w64)) rfl .d csx rfl rfl rfl ?_
   clear hp
   intro s hp _
   conv => whnf
   refine Sm.live [4, 5, 7, 9, 11, 12] ?_
   conv => whnf
   refine Sm.seq ?_
   refine Sm.seqW ?_
   conv => whnf
   refine Sm.ofW ?_
   conv => whnf
   repeat ((first | refine Br.y1 ?_ | refine Br.n1 ?_); conv => whnf)
   refine Sm.seqW ?_
   conv => whnf
   refine Om.of _ (rfl) ?_
   conv => whnf
   refine hp.load (v := .int .u64 (((p + r) % w64 : Nat) : Int)) .d (by rfl) rfl rfl rfl ?_
   conv => whnf
   refine Om.of _ (rfl) ?_
   conv => whnf
   refine hp.load (v := .int .u64 (((p + r) / w64 : Nat) : Int)) .d (by rfl) rfl rfl rfl ?_
   conv => whnf
   refine Om.of _ (rfl) ?_
   conv => whnf
   refine hp.load (v := .int .u64 (((q + t) % w64 : Nat) : Int)) .d (by rfl) rfl rfl rfl ?_
   conv => whnf
   refine Om.of _ (rfl) ?_
   conv => whnf
   refine hp.load (v := .int .u64 (((q + t) / w64 : Nat) : Int)) .d (by rfl) rfl rfl rfl ?_
   conv => whnf
   refine hp.storeW (vs := C4 ((p + r) % w64) ((p + r) / w64) ((q + t) % w64) ((q + t) / w64)) rfl .d csx rfl rfl rfl ?_
   clear hp
   intro s hp _
   conv => whnf
   refine Sm.ofW ?_
   conv => whnf
   refine hp.loadA (l := C4 ((p + r) % w64) ((p + r) / w64) ((q + t) % w64) ((q + t) / w64)) .d rfl (by rfl) rfl rfl ?_
   conv => whnf
   exact ⟨hp.fr, hfin (q + t) (p + r) (by simp only [w128] at *; omega) (by simp only [w128] at *; omega)⟩
 · refine hp.call (lAdd_no hp.wf (a := p) (b := r) ar br hlt) ?_
   clear hp
   rintro _ s rfl hp _
   conv => whnf
   refine hp.alloc (cs := C2 0 0) (e := 1) rfl rfl rfl rfl rfl ?_
   clear hp
   intro pb s hp _
   conv => whnf
   refine hp.storeW (vs := C2 (0 % w64) (0 / w64)) rfl .d csx rfl rfl rfl ?_
   clear hp
   intro s hp _
   conv => whnf
   refine Sm.live [4, 5, 7, 9, 11, 12] ?_
   conv => whnf
   refine Sm.seq ?_
   refine Sm.seqW ?_
   conv => whnf
   refine Sm.ofW ?_
   conv => whnf
   repeat ((first | refine Br.y1 ?_ | refine Br.n1 ?_); conv => whnf)
   refine hp.loadA (l := C2 (r % w64) (r / w64)) .d rfl (by rfl) rfl rfl ?_
   conv => whnf
   refine Om.of _ (rfl) ?_
   conv => whnf
   refine hp.load (v := .int .u64 ((p % w64 : Nat) : Int)) .d (by rfl) rfl rfl rfl ?_
   conv => whnf
   refine Om.of _ (rfl) ?_
   conv => whnf
   refine hp.load (v := .int .u64 ((p / w64 : Nat) : Int)) .d (by rfl) rfl rfl rfl ?_
   conv => whnf
   have c1 := compl_u64 (w2_lt ar).1
   have c2 := compl_u64 (w2_lt ar).2
   have hw : A2 (w64 - 1 - p % w64) (w64 - 1 - p / w64) = W2 (w128 - 1 - p) := by
    rw [words_of2 (by simp only [w64]; omega) (by simp only [w64]; omega)]
    congr 1
    have := w2_lt ar
    simp only [w64, w128] at *; omega
   have hcall := lSub_sub hp.wf (a := r) (b := w128 - 1 - p) (c := p + r - w128 + 1) br (by simp only [w128] at *; omega) (by simp only [w128] at *; omega) (by simp only [w128] at *; omega)
   rw [← hw] at hcall
   rw [c1, c2]
   refine hp.call (hcall) ?_
   clear hp
   rintro _ s rfl hp _
   conv => whnf
   refine hp.storeW (vs := C2 ((p + r - w128 + 1) % w64) ((p + r - w128 + 1) / w64)) rfl .d csx rfl rfl rfl ?_
   clear hp
   intro s hp _
   conv => whnf
   refine ⟨[0, 0, 3, 7, 15, 15, 31], by decide +kernel, by decide +kernel, ?_⟩
   conv => whnf
   refine hp.loadA (l := C2 ((p + r - w128 + 1) % w64) ((p + r - w128 + 1) / w64)) .d rfl (by rfl) rfl rfl ?_
   conv => whnf
   refine hp.rst.call (lOf_spec hp.rst.wf (a := 1) (by decide)) ?_
   rintro _ s1 rfl h1 k1
   conv => whnf
   refine hp.dkN h1 k1 ?_
   clear hp h1 k1
   intro s hp
   conv => whnf
   refine hp.rst.call (lSub_sub hp.rst.wf (a := p + r - w128 + 1) (b := 1) (c := p + r - w128) (by simp only [w128] at *; omega) one_lt (by omega) (by omega)) ?_
   rintro _ s1 rfl h1 k1
   conv => whnf
   refine hp.dkN h1 k1 ?_
   clear hp h1 k1
   intro s hp
   conv => whnf
   refine hp.rst.storeW (vs := C2 ((p + r - w128) % w64) ((p + r - w128) / w64)) rfl .d csx rfl rfl rfl ?_
   intro s1 h1 l1
   conv => whnf
   refine hp.dkW h1 l1 ?_
   clear hp h1 l1
   intro s hp
   conv => whnf
   refine ⟨[0, 0, 3, 7, 15, 15, 31], by decide +kernel, by decide +kernel, ?_⟩
   conv => whnf
   refine hp.loadA (l := C2 ((q + t) % w64) ((q + t) / w64)) .d rfl (by rfl) rfl rfl ?_
   conv => whnf
   refine hp.rst.call (lOf_spec hp.rst.wf (a := 1) (by decide)) ?_
   rintro _ s1 rfl h1 k1
   conv => whnf
   refine hp.dkN h1 k1 ?_
   clear hp h1 k1
   intro s hp
   conv => whnf
   refine hp.rst.call (lAdd_add hp.rst.wf (a := q + t) (b := 1) (c := q + t + 1) (by simp only [w128] at *; omega) one_lt rfl (by simp only [w128] at *; omega)) ?_
   rintro _ s1 rfl h1 k1
   conv => whnf
   refine hp.dkN h1 k1 ?_
   clear hp h1 k1
   intro s hp
   conv => whnf
   refine hp.rst.storeW (vs := C2 ((q + t + 1) % w64) ((q + t + 1) / w64)) rfl .d csx rfl rfl rfl ?_
   intro s1 h1 l1
   conv => whnf
   refine hp.dkW h1 l1 ?_
   clear hp h1 l1
   intro s hp
   conv => whnf
   refine Sm.seqW ?_
   conv => whnf
   refine Om.of _ (rfl) ?_
   conv => whnf
   refine hp.load (v := .int .u64 (((p + r - w128) % w64 : Nat) : Int)) .d (by rfl) rfl rfl rfl ?_
   conv => whnf
   refine Om.of _ (rfl) ?_
   conv => whnf
   refine hp.load (v := .int .u64 (((p + r - w128) / w64 : Nat) : Int)) .d (by rfl) rfl rfl rfl ?_
   conv => whnf
   refine Om.of _ (rfl) ?_
   conv => whnf
   refine hp.load (v := .int .u64 (((q + t + 1) % w64 : Nat) : Int)) .d (by rfl) rfl rfl rfl ?_
   conv => whnf
   refine Om.of _ (rfl) ?_
   conv => whnf
   refine hp.load (v := .int .u64 (((q + t + 1) / w64 : Nat) : Int)) .d (by rfl) rfl rfl rfl ?_
   conv => whnf
   refine hp.storeW (vs := C4 ((p + r - w128) % w64) ((p + r - w128) / w64) ((q + t + 1) % w64) ((q + t + 1) / w64)) rfl .d csx rfl rfl rfl ?_
   clear hp
   intro s hp _
   conv => whnf
   refine Sm.ofW ?_
   conv => whnf
   refine hp.loadA (l := C4 ((p + r - w128) % w64) ((p + r - w128) / w64) ((q + t + 1) % w64) ((q + t + 1) / w64)) .d rfl (by rfl) rfl rfl ?_
   conv => whnf
   exact ⟨hp.fr, hfin (q + t + 1) (p + r - w128) (by simp only [w128] at *; omega) (by simp only [w128] at *; omega)⟩
theorem dless_spec {z : St} (wf : WF z) {a b : Nat} (ha : a < w256) (hb : b ≤ a) :
  Cw Tryz.prog 72 [W4 a, W4 b] z fun r s' => K0 z s' ∧ r = W4 (a - b) := by
 have hp : Hp (fun _ => False) z [] [] z := Hp.start _ wf _ (by simp)
 have b1 : b < w256 := by omega
 obtain ⟨q, hq⟩ : ∃ q, q = a / w128 := ⟨_, rfl⟩
 obtain ⟨p, hP⟩ : ∃ p, p = a % w128 := ⟨_, rfl⟩
 obtain ⟨t, ht⟩ : ∃ q, q = b / w128 := ⟨_, rfl⟩
 obtain ⟨r, hr⟩ : ∃ p, p = b % w128 := ⟨_, rfl⟩
 have aq : q < w128 := by simp only [w128, w256] at *; omega
 have bq : t ≤ q := by simp only [w128, w256] at *; omega
 have ar : p < w128 := hP ▸ Nat.mod_lt _ (by decide)
 have br : r < w128 := hr ▸ Nat.mod_lt _ (by decide)
 have hab : a = q * w128 + p ∧ b = t * w128 + r := by simp only [w128] at *; omega
 have hfin : ∀ h l : Nat, l < w128 → h * w128 + l = a - b → A4 (l % w64) (l / w64) (h % w64) (h / w64) = W4 (a - b) := fun h l hl e => by rw [← e, w4_parts hl]
 refine Cw.enterS Tryz.func72 rfl rfl ?_
 refine Sm.seqW ?_
 conv => whnf
 refine hp.var (cs := C4 (a % w64) (a / w64 % w64) (a / w128 % w64) (a / w192)) (e := 1) rfl rfl ?_
 clear hp
 intro p2 s hp _
 conv => whnf
 refine hp.var (cs := C4 (b % w64) (b / w64 % w64) (b / w128 % w64) (b / w192)) (e := 1) rfl rfl ?_
 clear hp
 intro p3 s hp _
 conv => whnf
 refine hp.alloc (cs := C4 0 0 0 0) (e := 1) rfl rfl rfl rfl rfl ?_
 clear hp
 intro p4 s hp _
 conv => whnf
 refine Sm.live [2, 3, 4] ?_
 conv => whnf
 refine Sm.seqW ?_
 conv => whnf
 refine hp.loadA (l := C4 (a % w64) (a / w64 % w64) (a / w128 % w64) (a / w192)) .d rfl (by rfl) rfl rfl ?_
 conv => whnf
 refine hp.call (dhalves_spec hp.wf ha) ?_
 clear hp
 rintro _ s rfl hp _
 conv => whnf
 rw [← hq, ← hP]
 refine hp.alloc (cs := C2 0 0) (e := 1) rfl rfl rfl rfl rfl ?_
 clear hp
 intro p5 s hp _
 conv => whnf
 refine hp.alloc (cs := C2 0 0) (e := 1) rfl rfl rfl rfl rfl ?_
 clear hp
 intro p6 s hp _
 conv => whnf
 refine hp.storeW (vs := C2 (p % w64) (p / w64)) rfl .d csx rfl rfl rfl ?_
 clear hp
 intro s hp _
 conv => whnf
 refine hp.storeW (vs := C2 (q % w64) (q / w64)) rfl .d csx rfl rfl rfl ?_
 clear hp
 intro s hp _
 conv => whnf
 refine Sm.live [3, 4, 5, 6] ?_
 conv => whnf
 refine Sm.seqW ?_
 conv => whnf
 refine hp.loadA (l := C4 (b % w64) (b / w64 % w64) (b / w128 % w64) (b / w192)) .d rfl (by rfl) rfl rfl ?_
 conv => whnf
 refine hp.call (dhalves_spec hp.wf b1) ?_
 clear hp
 rintro _ s rfl hp _
 conv => whnf
 rw [← ht, ← hr]
 refine hp.alloc (cs := C2 0 0) (e := 1) rfl rfl rfl rfl rfl ?_
 clear hp
 intro p7 s hp _
 conv => whnf
 refine hp.alloc (cs := C2 0 0) (e := 1) rfl rfl rfl rfl rfl ?_
 clear hp
 intro p8 s hp _
 conv => whnf
 refine hp.storeW (vs := C2 (r % w64) (r / w64)) rfl .d csx rfl rfl rfl ?_
 clear hp
 intro s hp _
 conv => whnf
 refine hp.storeW (vs := C2 (t % w64) (t / w64)) rfl .d csx rfl rfl rfl ?_
 clear hp
 intro s hp _
 conv => whnf
 refine Sm.live [4, 5, 6, 7, 8] ?_
 conv => whnf
 refine Sm.seqW ?_
 conv => whnf
 refine hp.loadA (l := C2 (q % w64) (q / w64)) .d rfl (by rfl) rfl rfl ?_
 conv => whnf
 refine hp.loadA (l := C2 (t % w64) (t / w64)) .d rfl (by rfl) rfl rfl ?_
 conv => whnf
 refine hp.call (lSub_sub hp.wf (a := q) (b := t) (c := q - t) aq (by omega) bq rfl) ?_
 clear hp
 rintro _ s rfl hp _
 conv => whnf
 refine hp.alloc (cs := C2 0 0) (e := 1) rfl rfl rfl rfl rfl ?_
 clear hp
 intro p9 s hp _
 conv => whnf
 refine hp.storeW (vs := C2 ((q - t) % w64) ((q - t) / w64)) rfl .d csx rfl rfl rfl ?_
 clear hp
 intro s hp _
 conv => whnf
 refine Sm.live [4, 5, 7, 9] ?_
 conv => whnf
 refine Sm.seqW ?_
 conv => whnf
 refine hp.loadA (l := C2 (p % w64) (p / w64)) .d rfl (by rfl) rfl rfl ?_
 conv => whnf
 refine hp.loadA (l := C2 (r % w64) (r / w64)) .d rfl (by rfl) rfl rfl ?_
 conv => whnf
 by_cases hlt : r ≤ p
 · refine hp.call (lSub_sub hp.wf (a := p) (b := r) (c := p - r) ar br hlt rfl) ?_
   clear hp
   rintro _ s rfl hp _
   conv => whnf
   refine hp.alloc (cs := C2 0 0) (e := 1) rfl rfl rfl rfl rfl ?_
   clear hp
   intro pb s hp _
   conv => whnf
   refine hp.storeW (vs := C2 ((p - r) % w64) ((p - r) / w64)) rfl .d csx rfl rfl rfl ?_
   clear hp
   intro s hp _
   conv => whnf
   refine Sm.live [4, 5, 7, 9, 11, 12] ?_
   conv => whnf
   refine Sm.seq ?_
   refine Sm.seqW ?_
   conv => whnf
   refine Sm.ofW ?_
   conv => whnf
   repeat ((first | refine Br.y1 ?_ | refine Br.n1 ?_); conv => whnf)
   refine Sm.seqW ?_
   conv => whnf
   refine Om.of _ (rfl) ?_
   conv => whnf
   refine hp.load (v := .int .u64 (((p - r) % w64 : Nat) : Int)) .d (by rfl) rfl rfl rfl ?_
   conv => whnf
   refine Om.of _ (rfl) ?_
   conv => whnf
   refine hp.load (v := .int .u64 (((p - r) / w64 : Nat) : Int)) .d (by rfl) rfl rfl rfl ?_
   conv => whnf
   refine Om.of _ (rfl) ?_
   conv => whnf
   refine hp.load (v := .int .u64 (((q - t) % w64 : Nat) : Int)) .d (by rfl) rfl rfl rfl ?_
   conv => whnf
   refine Om.of _ (rfl) ?_
   conv => whnf
   refine hp.load (v := .int .u64 (((q - t) / w64 : Nat) : Int)) .d (by rfl) rfl rfl rfl ?_
   conv => whnf
   refine hp.storeW (vs := C4 ((p - r) % w64) ((p - r) / w64) ((q - t) % w64) ((q - t) / w64)) rfl .d csx rfl rfl rfl ?_
   clear hp
   intro s hp _
   conv => whnf
   refine Sm.ofW ?_
   conv => whnf
   refine hp.loadA (l := C4 ((p - r) % w64) ((p - r) / w64) ((q - t) % w64) ((q - t) / w64)) .d rfl (by rfl) rfl rfl ?_
   conv => whnf
   exact ⟨hp.fr, hfin (q - t) (p - r) (by simp only [w128] at *; omega) (by simp only [w128] at *; omega)⟩
 · have htq : t < q := by simp only [w128] at *; omega
   refine hp.call (lSub_no hp.wf (a := p) (b := r) ar br (by omega)) ?_
   clear hp
   rintro _ s rfl hp _
   conv => whnf
   refine hp.alloc (cs := C2 0 0) (e := 1) rfl rfl rfl rfl rfl ?_
   clear hp
   intro pb s hp _
   conv => whnf
   refine hp.storeW (vs := C2 (0 % w64) (0 / w64)) rfl .d csx rfl rfl rfl ?_
   clear hp
   intro s hp _
   conv => whnf
   refine Sm.live [4, 5, 7, 9, 11, 12] ?_
   conv => whnf
   refine Sm.seq ?_
   refine Sm.seqW ?_
   conv => whnf
   refine Sm.ofW ?_
   conv => whnf
   repeat ((first | refine Br.y1 ?_ | refine Br.n1 ?_); conv => whnf)
   refine hp.loadA (l := C2 (r % w64) (r / w64)) .d rfl (by rfl) rfl rfl ?_
   conv => whnf
   refine hp.loadA (l := C2 (p % w64) (p / w64)) .d rfl (by rfl) rfl rfl ?_
   conv => whnf
   refine hp.call (lSub_sub hp.wf (a := r) (b := p) (c := r - p) br ar (by omega) rfl) ?_
   clear hp
   rintro _ s rfl hp _
   conv => whnf
   refine hp.alloc (cs := C2 0 0) (e := 1) rfl rfl rfl rfl rfl ?_
   clear hp
   intro pd s hp _
   conv => whnf
   refine hp.storeW (vs := C2 ((r - p) % w64) ((r - p) / w64)) rfl .d csx rfl rfl rfl ?_
   clear hp
   intro s hp _
   conv => whnf
   refine ⟨[0, 0, 3, 7, 15, 15, 31], by decide +kernel, by decide +kernel, ?_⟩
   conv => whnf
   refine hp.loadA (l := C2 ((r - p) % w64) ((r - p) / w64)) .d rfl (by rfl) rfl rfl ?_
   conv => whnf
   refine hp.rst.call (lOf_spec hp.rst.wf (a := 1) (by decide)) ?_
   rintro _ s1 rfl h1 k1
   conv => whnf
   refine hp.dkN h1 k1 ?_
   clear hp h1 k1
   intro s hp
   conv => whnf
   obtain ⟨y, hy⟩ : ∃ y, y = r - p - 1 := ⟨_, rfl⟩
   have hyl : y < w128 := by omega
   refine hp.rst.call (lSub_sub hp.rst.wf (a := r - p) (b := 1) (c := y) (by omega) one_lt (by omega) hy) ?_
   rintro _ s1 rfl h1 k1
   conv => whnf
   refine hp.dkN h1 k1 ?_
   clear hp h1 k1
   intro s hp
   conv => whnf
   refine hp.rst.storeW (vs := C2 ((y) % w64) ((y) / w64)) rfl .d csx rfl rfl rfl ?_
   intro s1 h1 l1
   conv => whnf
   refine hp.dkW h1 l1 ?_
   clear hp h1 l1
   intro s hp
   conv => whnf
   refine Om.of _ (rfl) ?_
   conv => whnf
   refine hp.load (v := .int .u64 ((y % w64 : Nat) : Int)) .d (by rfl) rfl rfl rfl ?_
   conv => whnf
   refine Om.of _ (rfl) ?_
   conv => whnf
   refine hp.load (v := .int .u64 ((y / w64 : Nat) : Int)) .d (by rfl) rfl rfl rfl ?_
   conv => whnf
   have c1 := compl_u64 (w2_lt hyl).1
   have c2 := compl_u64 (w2_lt hyl).2
   have hyd := Nat.div_add_mod y w64
   have hw : (w64 - 1 - y % w64) = (p + w128 - r) % w64 ∧ w64 - 1 - y / w64 = (p + w128 - r) / w64 := by
    have := w2_lt hyl
    simp only [w64, w128] at *; omega
   rw [c1, c2, hw.1, hw.2]
   refine hp.storeW (vs := C2 ((p + w128 - r) % w64) ((p + w128 - r) / w64)) rfl .d csx rfl rfl rfl ?_
   clear hp
   intro s hp _
   conv => whnf
   refine ⟨[0, 0, 3, 7, 15, 15, 31], by decide +kernel, by decide +kernel, ?_⟩
   conv => whnf
   refine hp.loadA (l := C2 ((q - t) % w64) ((q - t) / w64)) .d rfl (by rfl) rfl rfl ?_
   conv => whnf
   refine hp.rst.call (lOf_spec hp.rst.wf (a := 1) (by decide)) ?_
   rintro _ s1 rfl h1 k1
   conv => whnf
   refine hp.dkN h1 k1 ?_
   clear hp h1 k1
   intro s hp
   conv => whnf
   refine hp.rst.call (lSub_sub hp.rst.wf (a := q - t) (b := 1) (c := q - t - 1) (by omega) one_lt (by omega) rfl) ?_
   rintro _ s1 rfl h1 k1
   conv => whnf
   refine hp.dkN h1 k1 ?_
   clear hp h1 k1
   intro s hp
   conv => whnf
   refine hp.rst.storeW (vs := C2 ((q - t - 1) % w64) ((q - t - 1) / w64)) rfl .d csx rfl rfl rfl ?_
   intro s1 h1 l1
   conv => whnf
   refine hp.dkW h1 l1 ?_
   clear hp h1 l1
   intro s hp
   conv => whnf
   refine Sm.seqW ?_
   conv => whnf
   refine Om.of _ (rfl) ?_
   conv => whnf
   refine hp.load (v := .int .u64 (((p + w128 - r) % w64 : Nat) : Int)) .d (by rfl) rfl rfl rfl ?_
   conv => whnf
   refine Om.of _ (rfl) ?_
   conv => whnf
   refine hp.load (v := .int .u64 (((p + w128 - r) / w64 : Nat) : Int)) .d (by rfl) rfl rfl rfl ?_
   conv => whnf
   refine Om.of _ (rfl) ?_
   conv => whnf
   refine hp.load (v := .int .u64 (((q - t - 1) % w64 : Nat) : Int)) .d (by rfl) rfl rfl rfl ?_
   conv => whnf
   refine Om.of _ (rfl) ?_
   conv => whnf
   refine hp.load (v := .int .u64 (((q - t - 1) / w64 : Nat) : Int)) .d (by rfl) rfl rfl rfl ?_
   conv => whnf
   refine hp.storeW (vs := C4 ((p + w128 - r) % w64) ((p + w128 - r) / w64) ((q - t - 1) % w64) ((q - t - 1) / w64)) rfl .d csx rfl rfl rfl ?_
   clear hp
   intro s hp _
   conv => whnf
   refine Sm.ofW ?_
   conv => whnf
   refine hp.loadA (l := C4 ((p + w128 - r) % w64) ((p + w128 - r) / w64) ((q - t - 1) % w64) ((q - t - 1) / w64)) .d rfl (by rfl) rfl rfl ?_
   conv => whnf
   exact ⟨hp.fr, hfin (q - t - 1) (p + w128 - r) (by simp only [w128] at *; omega) (by simp only [w128] at *; omega)⟩
end

/- Sums, products and the order of decimals, without a program. No condition. -/
section
variable [Lk]
def up (d : Dc) (S : Int) : Int := if d.neg = true then -((d.c * 10 ^ (S - d.scale).toNat : Nat) : Int) else ((d.c * 10 ^ (S - d.scale).toNat : Nat) : Int)
def mkI (x : Int) (S : Int) : Value := dmade (decide (x < 0)) x.natAbs S
def addF (a b : Dc) : Value := if a.right = false ∨ b.right = false then errD 1 else mkI (up a (max a.scale b.scale) + up b (max a.scale b.scale)) (max a.scale b.scale)
theorem dmade_mk (neg : Bool) (n : Nat) (S : Int) : dmade neg n S = mkI (if neg = true then -(n : Int) else n) S := by
 unfold mkI
 cases neg with
 | false =>
   rw [if_neg (by decide), decide_eq_false (by omega)]; rfl
 | true =>
   rw [if_pos rfl]
   have e : (-(n : Int)).natAbs = n := by omega
   rw [e]
   unfold dmade
   by_cases h : n = 0
   · subst h; rfl
   · rw [decide_eq_true (show -(n : Int) < 0 by omega)]
theorem add_same {a b : Dc} {S : Int} (h : a.neg = b.neg) : dmade a.neg (a.c * 10 ^ (S - a.scale).toNat + b.c * 10 ^ (S - b.scale).toNat) S = mkI (up a S + up b S) S := by
 rw [dmade_mk]
 unfold up
 rw [← h]
 congr 1
 generalize a.c * 10 ^ (S - a.scale).toNat = x
 generalize b.c * 10 ^ (S - b.scale).toNat = y
 cases a.neg <;> simp <;> omega
theorem add_left {a b : Dc} {S : Int} (h : ¬ a.neg = b.neg) (hle : b.c * 10 ^ (S - b.scale).toNat ≤ a.c * 10 ^ (S - a.scale).toNat) : dmade a.neg (a.c * 10 ^ (S - a.scale).toNat - b.c * 10 ^ (S - b.scale).toNat) S = mkI (up a S + up b S) S := by
 rw [dmade_mk]
 unfold up
 congr 1
 generalize a.c * 10 ^ (S - a.scale).toNat = x at *
 generalize b.c * 10 ^ (S - b.scale).toNat = y at *
 cases ha : a.neg <;> cases hb : b.neg <;> rw [ha, hb] at h <;> first | exact absurd rfl h | (simp; omega)
theorem add_right {a b : Dc} {S : Int} (h : ¬ a.neg = b.neg) (hle : a.c * 10 ^ (S - a.scale).toNat ≤ b.c * 10 ^ (S - b.scale).toNat) : dmade b.neg (b.c * 10 ^ (S - b.scale).toNat - a.c * 10 ^ (S - a.scale).toNat) S = mkI (up a S + up b S) S := by
 rw [Int.add_comm]
 exact add_left (fun e => h e.symm) hle
theorem wide_small {d : Dc} {S : Int} (h : d.c < 10 ^ 30) (hs : S - d.scale ≤ 9) : d.c * 10 ^ (S - d.scale).toNat < w256 / 4 := by
 have h1 := pow_le10 (show (S - d.scale).toNat ≤ 9 by omega)
 have h2 := Nat.mul_le_mul (Nat.le_of_lt h) h1
 have h3 : 10 ^ 30 * 10 ^ 9 < w256 / 4 := by decide
 omega
theorem addF_shape (a b : Dc) : ∃ (d : Dc) (e : Int), addF a b = .tuple #[d.val, .int .i64 e] := by
 unfold addF
 split
 · exact ⟨_, _, rfl⟩
 · exact dmade_shape _ _ _
end

/- dec.Cmp, Add, Sub, Mul walked. No condition. -/
section
variable [Lk]
theorem wide_at {z : St} (wf : WF z) {d : Dc} (hd : d.c < w128) (hr : d.right = true) {S : Int} (h1 : d.scale ≤ S) (h2 : S ≤ 9) :
  Cw Tryz.prog 68 [d.val, .int .i64 S] z fun r s' => K0 z s' ∧ r = W4 (d.c * 10 ^ (S - d.scale).toNat) := by
 obtain ⟨g1, g2, g3⟩ := Dc.right_c hr
 exact dwide_spec wf d hd (k := (S - d.scale).toNat) (by omega) (by omega) ⟨by omega, by omega⟩
theorem decAdd_spec {z : St} (wf : WF z) (a b : Dc) (ha : a.c < w128) (hb : b.c < w128) : Cw Tryz.prog 29 [a.val, b.val] z fun r s' => K0 z s' ∧ r = addF a b := by
 have hp : Hp (fun _ => False) z [] [] z := Hp.start _ wf _ (by simp)
 refine Cw.enterS Tryz.func29 rfl rfl ?_
 refine Sm.seqW ?_
 conv => whnf
 refine hp.var (cs := a.cells) (e := 4) rfl rfl ?_
 clear hp
 intro p2 s hp _
 conv => whnf
 refine hp.var (cs := b.cells) (e := 4) rfl rfl ?_
 clear hp
 intro p3 s hp _
 conv => whnf
 refine hp.alloc (cs := Dc.zero.cells) (e := 4) rfl rfl rfl rfl rfl ?_
 clear hp
 intro p4 s hp _
 conv => whnf
 refine Sm.live [2, 3, 4] ?_
 conv => whnf
 refine Sm.seq ?_
 refine Sm.seqW ?_
 conv => whnf
 refine hp.loadA (l := a.cells) .d rfl (by rfl) rfl rfl ?_
 conv => whnf
 refine hp.call (right_spec hp.wf a ha) ?_
 clear hp
 rintro _ s rfl hp _
 conv => whnf
 cases hr : a.right with
 | false =>
   repeat ((first | refine Br.y1 ?_ | refine Br.n1 ?_); conv => whnf)
   refine Sm.ofW ?_
   conv => whnf
   repeat ((first | refine Br.y1 ?_ | refine Br.n1 ?_); conv => whnf)
   refine hp.storeW (vs := Dc.zero.cells) rfl .d csx rfl rfl rfl ?_
   clear hp
   intro s hp _
   conv => whnf
   refine hp.loadA (l := Dc.zero.cells) .d rfl (by rfl) rfl rfl ?_
   conv => whnf
   exact ⟨hp.fr, by unfold addF; rw [if_pos (.inl hr)]; rfl⟩
 | true =>
   repeat ((first | refine Br.y1 ?_ | refine Br.n1 ?_); conv => whnf)
   refine hp.loadA (l := b.cells) .d rfl (by rfl) rfl rfl ?_
   conv => whnf
   repeat ((first | refine Br.y1 ?_ | refine Br.n1 ?_); conv => whnf)
   refine hp.call (right_spec hp.wf b hb) ?_
   clear hp
   rintro _ s rfl hp _
   conv => whnf
   cases hrb : b.right with
   | false =>
     repeat ((first | refine Br.y1 ?_ | refine Br.n1 ?_); conv => whnf)
     refine Sm.ofW ?_
     conv => whnf
     repeat ((first | refine Br.y1 ?_ | refine Br.n1 ?_); conv => whnf)
     refine hp.storeW (vs := Dc.zero.cells) rfl .d csx rfl rfl rfl ?_
     clear hp
     intro s hp _
     conv => whnf
     refine hp.loadA (l := Dc.zero.cells) .d rfl (by rfl) rfl rfl ?_
     conv => whnf
     exact ⟨hp.fr, by unfold addF; rw [if_pos (.inr hrb)]; rfl⟩
   | true =>
     obtain ⟨a1, a2, a3⟩ := Dc.right_c hr
     obtain ⟨b1, b2, b3⟩ := Dc.right_c hrb
     repeat ((first | refine Br.y1 ?_ | refine Br.n1 ?_); conv => whnf)
     refine Sm.ofW ?_
     conv => whnf
     repeat ((first | refine Br.y1 ?_ | refine Br.n1 ?_); conv => whnf)
     refine Sm.seqW ?_
     conv => whnf
     refine hp.load (v := .int .i64 a.scale) .d (by rfl) rfl rfl rfl ?_
     conv => whnf
     refine hp.load (v := .int .i64 b.scale) .d (by rfl) rfl rfl rfl ?_
     conv => whnf
     have em2 : (if b.scale > a.scale then b.scale else a.scale) = max a.scale b.scale := by split <;> omega
     have hfin : addF a b = mkI (up a (max a.scale b.scale) + up b (max a.scale b.scale)) (max a.scale b.scale) := by unfold addF; rw [if_neg (by simp [hr, hrb])]
     rw [em2]
     generalize hS : max a.scale b.scale = S at *
     have wa := wide_small (S := S) a1 (by omega)
     have wb := wide_small (S := S) b1 (by omega)
     have hsame := add_same (a := a) (b := b) (S := S)
     have hleft := add_left (a := a) (b := b) (S := S)
     have hright := add_right (a := a) (b := b) (S := S)
     refine Sm.live [2, 3, 4, 6] ?_
     conv => whnf
     refine Sm.seqW ?_
     conv => whnf
     refine ⟨[0, 0, 3, 0, 0, 31, 0, 0, 255, 511], by decide +kernel, by decide +kernel, ?_⟩
     conv => whnf
     refine hp.loadA (l := a.cells) .d rfl (by rfl) rfl rfl ?_
     conv => whnf
     refine hp.rst.call (wide_at hp.rst.wf ha hr (S := S) (by omega) (by omega)) ?_
     rintro _ s1 rfl h1 k1
     conv => whnf
     refine hp.dkN h1 k1 ?_
     clear hp h1 k1
     intro s hp
     conv => whnf
     refine hp.loadA (l := b.cells) .d rfl (by rfl) rfl rfl ?_
     conv => whnf
     refine hp.rst.call (wide_at hp.rst.wf hb hrb (S := S) (by omega) (by omega)) ?_
     rintro _ s1 rfl h1 k1
     conv => whnf
     refine hp.dkN h1 k1 ?_
     clear hp h1 k1
     intro s hp
     conv => whnf
     generalize a.c * 10 ^ (S - a.scale).toNat = x at *
     generalize b.c * 10 ^ (S - b.scale).toNat = y at *
     refine hp.rst.alloc (cs := C4 0 0 0 0) (e := 1) rfl rfl rfl rfl rfl ?_
     intro p7 s1 h1 k1
     conv => whnf
     refine hp.dkN h1 k1 ?_
     clear hp h1 k1
     intro s hp
     conv => whnf
     refine hp.rst.alloc (cs := C4 0 0 0 0) (e := 1) rfl rfl rfl rfl rfl ?_
     intro p8 s1 h1 k1
     conv => whnf
     refine hp.dkN h1 k1 ?_
     clear hp h1 k1
     intro s hp
     conv => whnf
     refine hp.rst.storeW (vs := C4 (x % w64) (x / w64 % w64) (x / w128 % w64) (x / w192)) rfl .d csx rfl rfl rfl ?_
     intro s1 h1 l1
     conv => whnf
     refine hp.dkW h1 l1 ?_
     clear hp h1 l1
     intro s hp
     conv => whnf
     refine hp.rst.storeW (vs := C4 (y % w64) (y / w64 % w64) (y / w128 % w64) (y / w192)) rfl .d csx rfl rfl rfl ?_
     intro s1 h1 l1
     conv => whnf
     refine hp.dkW h1 l1 ?_
     clear hp h1 l1
     intro s hp
     conv => whnf
     refine Sm.live [2, 3, 4, 6, 7, 8] ?_
     conv => whnf
     refine Sm.seq ?_
     refine Sm.block ?_
     refine Sm.seqW ?_
     conv => whnf
     refine hp.load (v := .bool a.neg) .d (by rfl) rfl rfl rfl ?_
     conv => whnf
     refine hp.load (v := .bool b.neg) .d (by rfl) rfl rfl rfl ?_
     conv => whnf
     refine Om.of _ (rfl) ?_
     conv => whnf
     refine Sm.ofW ?_
     conv => whnf
     have xw : x < w256 := by simp only [w256] at *; omega
     have yw : y < w256 := by simp only [w256] at *; omega
     by_cases hn : a.neg = b.neg
     · refine Br.yes (beq_iff_eq.2 hn) ?_
       conv => whnf
       refine ⟨[0, 1, 0, 0, 12, 0, 63, 127, 127, 511, 1023], by decide +kernel, by decide +kernel, ?_⟩
       conv => whnf
       refine hp.load (v := .bool a.neg) .d (by rfl) rfl rfl rfl ?_
       conv => whnf
       refine hp.loadA (l := C4 (x % w64) (x / w64 % w64) (x / w128 % w64) (x / w192)) .d rfl (by rfl) rfl rfl ?_
       conv => whnf
       refine hp.loadA (l := C4 (y % w64) (y / w64 % w64) (y / w128 % w64) (y / w192)) .d rfl (by rfl) rfl rfl ?_
       conv => whnf
       refine hp.rst.call (dplus_spec hp.rst.wf wa wb) ?_
       rintro _ s1 rfl h1 k1
       conv => whnf
       refine hp.dkN h1 k1 ?_
       clear hp h1 k1
       intro s hp
       conv => whnf
       refine hp.rst.call (dmade_spec hp.rst.wf a.neg (n := x + y) (by simp only [w256] at *; omega) S) ?_
       rintro _ s1 rfl h1 k1
       conv => whnf
       refine hp.dkN h1 k1 ?_
       clear hp h1 k1
       intro s hp
       conv => whnf
       rw [hsame hn, ← hfin]
       obtain ⟨r, re, hx⟩ := addF_shape a b
       rw [hx]
       conv => whnf
       refine hp.rst.storeW (vs := r.cells) rfl .d csx rfl rfl rfl ?_
       intro s1 h1 l1
       conv => whnf
       refine hp.dkW h1 l1 ?_
       clear hp h1 l1
       intro s hp
       conv => whnf
       refine hp.loadA (l := r.cells) .d rfl (by rfl) rfl rfl ?_
       conv => whnf
       exact ⟨hp.fr, rfl⟩
     · refine Br.no (beq_eq_false_iff_ne.2 hn) ?_
       conv => whnf
       refine hp.loadA (l := C4 (x % w64) (x / w64 % w64) (x / w128 % w64) (x / w192)) .d rfl (by rfl) rfl rfl ?_
       conv => whnf
       refine hp.loadA (l := C4 (y % w64) (y / w64 % w64) (y / w128 % w64) (y / w192)) .d rfl (by rfl) rfl rfl ?_
       conv => whnf
       refine hp.call (dcmp_spec hp.wf xw yw) ?_
       clear hp
       rintro _ s rfl hp _
       conv => whnf
       by_cases hle : y ≤ x
       · have hc : decide (cmpI x y ≥ 0) = true := decide_eq_true (by unfold cmpI; rw [if_neg (by omega)]; split <;> decide)
         refine Br.yes (hc) ?_
         conv => whnf
         refine ⟨[0, 1, 0, 0, 12, 0, 63, 127, 127, 511, 1023], by decide +kernel, by decide +kernel, ?_⟩
         conv => whnf
         refine hp.load (v := .bool a.neg) .d (by rfl) rfl rfl rfl ?_
         conv => whnf
         refine hp.loadA (l := C4 (x % w64) (x / w64 % w64) (x / w128 % w64) (x / w192)) .d rfl (by rfl) rfl rfl ?_
         conv => whnf
         refine hp.loadA (l := C4 (y % w64) (y / w64 % w64) (y / w128 % w64) (y / w192)) .d rfl (by rfl) rfl rfl ?_
         conv => whnf
         refine hp.rst.call (dless_spec hp.rst.wf xw hle) ?_
         rintro _ s1 rfl h1 k1
         conv => whnf
         refine hp.dkN h1 k1 ?_
         clear hp h1 k1
         intro s hp
         conv => whnf
         refine hp.rst.call (dmade_spec hp.rst.wf a.neg (n := x - y) (by omega) S) ?_
         rintro _ s1 rfl h1 k1
         conv => whnf
         refine hp.dkN h1 k1 ?_
         clear hp h1 k1
         intro s hp
         conv => whnf
         rw [hleft hn hle, ← hfin]
         obtain ⟨r, re, hx⟩ := addF_shape a b
         rw [hx]
         conv => whnf
         refine hp.rst.storeW (vs := r.cells) rfl .d csx rfl rfl rfl ?_
         intro s1 h1 l1
         conv => whnf
         refine hp.dkW h1 l1 ?_
         clear hp h1 l1
         intro s hp
         conv => whnf
         refine hp.loadA (l := r.cells) .d rfl (by rfl) rfl rfl ?_
         conv => whnf
         exact ⟨hp.fr, rfl⟩
       · have hc : decide (cmpI x y ≥ 0) = false := decide_eq_false (by unfold cmpI; rw [if_pos (by omega)]; decide)
         refine Br.no (hc) ?_
         conv => whnf
         refine Sm.seqW ?_
         conv => whnf
         refine ⟨[0, 1, 0, 0, 12, 0, 63, 127, 127, 511, 1023], by decide +kernel, by decide +kernel, ?_⟩
         conv => whnf
         refine hp.load (v := .bool b.neg) .d (by rfl) rfl rfl rfl ?_
         conv => whnf
         refine hp.loadA (l := C4 (y % w64) (y / w64 % w64) (y / w128 % w64) (y / w192)) .d rfl (by rfl) rfl rfl ?_
         conv => whnf
         refine hp.loadA (l := C4 (x % w64) (x / w64 % w64) (x / w128 % w64) (x / w192)) .d rfl (by rfl) rfl rfl ?_
         conv => whnf
         refine hp.rst.call (dless_spec hp.rst.wf yw (b := x) (by omega)) ?_
         rintro _ s1 rfl h1 k1
         conv => whnf
         refine hp.dkN h1 k1 ?_
         clear hp h1 k1
         intro s hp
         conv => whnf
         refine hp.rst.call (dmade_spec hp.rst.wf b.neg (n := y - x) (by omega) S) ?_
         rintro _ s1 rfl h1 k1
         conv => whnf
         refine hp.dkN h1 k1 ?_
         clear hp h1 k1
         intro s hp
         conv => whnf
         rw [hright hn (by omega), ← hfin]
         obtain ⟨r, re, hx⟩ := addF_shape a b
         rw [hx]
         conv => whnf
         refine hp.rst.storeW (vs := r.cells) rfl .d csx rfl rfl rfl ?_
         intro s1 h1 l1
         conv => whnf
         refine hp.dkW h1 l1 ?_
         clear hp h1 l1
         intro s hp
         conv => whnf
         refine Sm.ofW ?_
         conv => whnf
         refine hp.loadA (l := r.cells) .d rfl (by rfl) rfl rfl ?_
         conv => whnf
         exact ⟨hp.fr, rfl⟩
end

/- Decimals as whole numbers at a scale, without a program. No condition. -/
section
variable [Lk]
def mkD (x : Int) (S : Int) : Dc := ⟨decide (x < 0), x.natAbs, S⟩
end

/- Rounded numbers with their signs. No condition. -/
section
variable [Lk]
end

/- QuantUnits walked. No condition. -/
section
variable [Lk]
end

/- Texts: HasPrefix, CutPrefix, Cut at one byte. No condition. -/
section
variable [Lk]
abbrev sv (l : List UInt8) : Value := .string ⟨l.toArray⟩
theorem sv_bs (t : ByteArray) : Value.string t = sv (bs t) := congrArg Value.string (mk_bs t).symm
theorem str_index {P : Program} {t : TypeId} (hu : P.underlying t = some .string) {l : List UInt8} {i : Nat} (h : i < l.length) (k : IntKind) : evIndex P t (sv l) (.int k (i : Int)) = some (.int .u8 ((l[i].toNat : Nat) : Int)) := by
 show (match P.underlying t, sv l, Value.int k (.ofNat i) with
  | some (.array n e), .agg cs, .int _ (.ofNat i) => match Nat.blt i n, P.info? e with
    | true, some j => partL P e cs.toList (i * j.size)
    | _, _ => none
  | some .string, .string s, .int _ (.ofNat i) => match (bs s)[i]? with
    | some b => some (.int .u8 b.toNat)
    | none => none
  | _, _, _ => none) = _
 rw [hu]
 simp only [bs_mk, List.getElem?_eq_getElem h]
theorem str_slice {P : Program} {t : TypeId} (hu : P.underlying t = some .string) {l : List UInt8} (k1 k2 : IntKind) (lo hi : Option Nat) (h1 : lo.getD 0 ≤ hi.getD l.length) (h2 : hi.getD l.length ≤ l.length) :
  evSliceStr P t (sv l) (bndV k1 lo) (bndV k2 hi) = some (sv ((l.drop (lo.getD 0)).take (hi.getD l.length - lo.getD 0))) := by
 have hb : bnds l.length l.length (bndV k1 lo) (bndV k2 hi) none = some (lo.getD 0, hi.getD l.length, l.length) := by
  unfold bnds
  cases lo <;> cases hi <;> simp only [bndV, Option.getD_none, Option.getD_some] at h1 h2 ⊢
  · rw [bnd_nat h2]
  · rw [bnd_nat h1]
  · rw [bnd_nat h2]; simp only; rw [bnd_nat h1]
 unfold evSliceStr
 rw [hu]
 simp only [bs_mk, hb]
theorem str_take {P : Program} {t : TypeId} (hu : P.underlying t = some .string) {l : List UInt8} (k : IntKind) {j : Nat} (h : j ≤ l.length) : evSliceStr P t (sv l) none (some (.int k (j : Int))) = some (sv (l.take j)) := by
 have := str_slice hu (l := l) k k none (some j) (by simp) (by simpa using h)
 simpa [bndV] using this
theorem str_drop {P : Program} {t : TypeId} (hu : P.underlying t = some .string) {l : List UInt8} (k : IntKind) {j : Nat} (h : j ≤ l.length) : evSliceStr P t (sv l) (some (.int k (j : Int))) none = some (sv (l.drop j)) := by
 have := str_slice hu (l := l) k k (some j) none (by simpa using h) (by simp)
 simp only [bndV, Option.getD_some, Option.getD_none] at this
 rw [this, List.take_of_length_le (by simp)]
theorem sv_eq {P : Program} {t : TypeId} {c : Bool} (a b : List UInt8) : evBin P .eql t c (sv a) (sv b) = some (.bool (a == b)) := str_eq _ _
theorem sv_ne {P : Program} {t : TypeId} {c : Bool} (a b : List UInt8) : evBin P .neq t c (sv a) (sv b) = some (.bool (!(a == b))) := str_ne _ _
def hasP (l p : List UInt8) : Bool := decide (p.length ≤ l.length) && (l.take p.length == p)
theorem hasPrefix_spec (s : St) (l p : List UInt8) : Cw Tryz.prog 170 [sv l, sv p] s fun r s' => s' = s ∧ r = .bool (hasP l p) := by
 refine Cw.enterS Tryz.func170 rfl rfl ?_
 refine Sm.seqW ?_
 conv => whnf
 refine Sm.seqW ?_
 conv => whnf
 unfold hasP
 by_cases h : p.length ≤ l.length
 · have hd : decide ((l.length : Int) ≥ (p.length : Int)) = true := decide_eq_true (by omega)
   repeat (refine Br.yes hd ?_; conv => whnf)
   refine Om.of _ (str_take Tryz.underlying9 .i64 h) ?_
   conv => whnf
   repeat (refine Br.yes hd ?_; conv => whnf)
   refine Om.of _ (sv_eq (l.take p.length) p) ?_
   conv => whnf
   repeat (refine Br.yes hd ?_; conv => whnf)
   refine Sm.ofW ?_
   conv => whnf
   rw [decide_eq_true h]
   exact ⟨rfl, rfl⟩
 · have hd : decide ((l.length : Int) ≥ (p.length : Int)) = false := decide_eq_false (by omega)
   repeat (refine Br.no hd ?_; conv => whnf)
   refine Sm.ofW ?_
   conv => whnf
   rw [decide_eq_false h]
   exact ⟨rfl, rfl⟩
def cutP (l p : List UInt8) : Value := if hasP l p = true then .tuple #[sv (l.drop p.length), .bool true] else .tuple #[sv l, .bool false]
theorem lcutPrefix_spec (s : St) (l p : List UInt8) : Cw Tryz.prog 147 [sv l, sv p] s fun r s' => s' = s ∧ r = cutP l p := by
 refine Cw.enterS Tryz.func147 rfl rfl ?_
 refine Sm.seqW ?_
 conv => whnf
 refine Sm.seq ?_
 refine Sm.seqW ?_
 conv => whnf
 refine (hasPrefix_spec _ l p).mono ?_
 rintro _ s1 ⟨h1, rfl⟩
 obtain rfl := h1.symm
 conv => whnf
 refine Sm.ofW ?_
 conv => whnf
 unfold cutP
 cases h : hasP l p with
 | false =>
   repeat ((first | refine Br.y1 ?_ | refine Br.n1 ?_); conv => whnf)
   exact ⟨rfl, rfl⟩
 | true =>
   have hl : p.length ≤ l.length := by
    unfold hasP at h
    simp only [Bool.and_eq_true, decide_eq_true_eq] at h
    exact h.1
   repeat ((first | refine Br.y1 ?_ | refine Br.n1 ?_); conv => whnf)
   refine Sm.seqW ?_
   conv => whnf
   refine Om.of _ (str_drop Tryz.underlying9 .i64 hl) ?_
   conv => whnf
   refine Sm.ofW ?_
   conv => whnf
   exact ⟨rfl, rfl⟩
theorem cutPrefix_spec (s : St) (l p : List UInt8) : Cw Tryz.prog 129 [sv l, sv p] s fun r s' => s' = s ∧ r = cutP l p := by
 refine Cw.enterS Tryz.func129 rfl rfl ?_
 refine Sm.seqW ?_
 conv => whnf
 refine Sm.seqW ?_
 conv => whnf
 refine (lcutPrefix_spec _ l p).mono ?_
 rintro r s1 ⟨h1, hr⟩
 obtain rfl := h1.symm
 unfold cutP at hr ⊢
 cases h : hasP l p with
 | false =>
   rw [h] at hr
   subst hr
   conv => whnf
   refine Sm.ofW ?_
   conv => whnf
   exact ⟨rfl, rfl⟩
 | true =>
   rw [h] at hr
   subst hr
   conv => whnf
   refine Sm.ofW ?_
   conv => whnf
   exact ⟨rfl, rfl⟩
end

/- Texts: IndexByte, Index and Cut at one byte. No condition. -/
section
variable [Lk]
theorem idxL_some {c : Nat} : ∀ {l : List UInt8} {i j : Nat}, idxL c l i = some j → ∃ k, j = i + k ∧ ∃ h : k < l.length, l[k].toNat = c ∧ ∀ m, (hm : m < k) → (l[m]'(by omega)).toNat ≠ c
 | [], i, j, h => by cases h
 | x :: xs, i, j, h => by
   unfold idxL at h
   split at h
   · rename_i hb
     injection h with h
     exact ⟨0, by omega, by simp, Nat.eq_of_beq_eq_true hb, fun m hm => by omega⟩
   · rename_i hb
     obtain ⟨k, h1, h2, h3, h4⟩ := idxL_some h
     refine ⟨k + 1, by omega, by simp; omega, by simpa using h3, fun m hm => ?_⟩
     cases m with
     | zero => intro e; rw [show ((x :: xs)[0]'(by simp)) = x from rfl] at e; rw [e, Nat.beq_refl] at hb; cases hb
     | succ m => simpa using h4 m (by omega)
def ixI (o : Option Nat) : Int := match o with
 | some i => (i : Int)
 | none => -1
theorem ibs_spec (s : St) (l : List UInt8) (c : UInt8) : Cw Tryz.prog 182 [sv l, .int .u8 ((c.toNat : Nat) : Int)] s fun r s' => s' = s ∧ r = .int .i64 (ixI (idxL c.toNat l 0)) := by
 refine ⟨⟨_, s, ⟨rfl, rfl⟩, .inr (.inl ⟨rfl, _, Tryz.func182, rfl, ?_⟩)⟩⟩
 have hc : Nat.blt c.toNat 256 = true := blt_of c.toNat_lt
 have : evExt "internal/bytealg.IndexByteString" [sv l, .int .u8 ((c.toNat : Nat) : Int)] = some (.int .i64 (ixI (idxL c.toNat l 0))) := by
  unfold evExt
  rw [show ("internal/bytealg.IndexByteString" == "internal/bytealg.IndexByteString") = true from rfl]
  show (match Nat.blt c.toNat 256 with
   | true => match idxL c.toNat (bs ⟨l.toArray⟩) 0 with
     | some i => some (Value.int .i64 (.ofNat i))
     | none => some (Value.int .i64 (.negSucc 0))
   | false => none) = _
  rw [hc, bs_mk]
  cases idxL c.toNat l 0 <;> rfl
 exact this
theorem indexByte_spec (s : St) (l : List UInt8) (c : UInt8) : Cw Tryz.prog 156 [sv l, .int .u8 ((c.toNat : Nat) : Int)] s fun r s' => s' = s ∧ r = .int .i64 (ixI (idxL c.toNat l 0)) := by
 refine Cw.enterS Tryz.func156 rfl rfl ?_
 refine Sm.seqW ?_
 conv => whnf
 refine Sm.seqW ?_
 conv => whnf
 refine (ibs_spec _ l c).mono ?_
 rintro _ s1 ⟨h1, rfl⟩
 obtain rfl := h1.symm
 conv => whnf
 refine Sm.ofW ?_
 conv => whnf
 exact ⟨rfl, rfl⟩
theorem index1_spec (s : St) (l : List UInt8) (c : UInt8) : Cw Tryz.prog 140 [sv l, sv [c]] s fun r s' => s' = s ∧ r = .int .i64 (ixI (idxL c.toNat l 0)) := by
 refine Cw.enterS Tryz.func140 rfl rfl ?_
 refine Sm.seqW ?_
 conv => whnf
 refine Sm.seqW ?_
 conv => whnf
 refine Sm.seq ?_
 refine Sm.block ?_
 refine Sm.seqW ?_
 conv => whnf
 repeat ((first | refine Br.y1 ?_ | refine Br.n1 ?_); conv => whnf)
 refine Om.of _ (sv_eq [c] l) ?_
 conv => whnf
 repeat ((first | refine Br.y1 ?_ | refine Br.n1 ?_); conv => whnf)
 refine Sm.ofW ?_
 conv => whnf
 by_cases he : l = [c]
 · subst he
   have hq : (([c] : List UInt8) == [c]) = true := beq_self_eq_true _
   rw [hq]
   repeat ((first | refine Br.y1 ?_ | refine Br.n1 ?_); conv => whnf)
   have hi : ixI (idxL c.toNat [c] 0) = 0 := by
    unfold idxL
    rw [Nat.beq_refl]; rfl
   rw [hi]
   exact ⟨rfl, rfl⟩
 have hq : (([c] : List UInt8) == l) = false := beq_eq_false_iff_ne.2 fun h => he h.symm
 rw [hq]
 repeat ((first | refine Br.y1 ?_ | refine Br.n1 ?_); conv => whnf)
 refine Om.of _ (str_index Tryz.underlying9 (l := [c]) (i := 0) (by simp) .i64) ?_
 conv => whnf
 refine (indexByte_spec _ l c).mono ?_
 rintro _ s1 ⟨h1, rfl⟩
 obtain rfl := h1.symm
 conv => whnf
 exact ⟨rfl, rfl⟩
end

/- Texts: Cut at one byte; a set of figures; Trim. No condition. -/
section
variable [Lk]
def cutF (l : List UInt8) (c : UInt8) : Value := match idxL c.toNat l 0 with
 | some i => .tuple #[sv (l.take i), sv (l.drop (i + 1)), .bool true]
 | none => .tuple #[sv l, sv [], .bool false]
theorem lcut_spec (s : St) (l : List UInt8) (hl : l.length < 4611686018427387904) (c : UInt8) : Cw Tryz.prog 118 [sv l, sv [c]] s fun r s' => s' = s ∧ r = cutF l c := by
 refine Cw.enterS Tryz.func118 rfl rfl ?_
 refine Sm.seqW ?_
 conv => whnf
 refine Sm.seq ?_
 refine Sm.seqW ?_
 conv => whnf
 refine (index1_spec _ l c).mono ?_
 rintro _ s1 ⟨h1, rfl⟩
 obtain rfl := h1.symm
 conv => whnf
 refine Sm.seqW ?_
 conv => whnf
 refine Sm.ofW ?_
 conv => whnf
 unfold cutF
 cases hi : idxL c.toNat l 0 with
 | none =>
   repeat ((first | refine Br.y1 ?_ | refine Br.n1 ?_); conv => whnf)
   refine Sm.seqW ?_
   conv => whnf
   refine Sm.ofW ?_
   conv => whnf
   exact ⟨rfl, rfl⟩
 | some i =>
   obtain ⟨k, h1, h2, h3, h4⟩ := idxL_some hi
   have hk : i < l.length := by omega
   have hd : decide (ixI (some i) ≥ 0) = true := decide_eq_true (by show (i : Int) ≥ 0; omega)
   refine Br.yes (hd) ?_
   conv => whnf
   refine ⟨[0, 0, 3, 0, 0, 0, 32, 112, 248, 7, 1023, 2047], by decide +kernel, by decide +kernel, ?_⟩
   conv => whnf
   have e1 : IntKind.i64.wrap (ixI (some i) + (([c] : List UInt8).length : Int)) = ((i + 1 : Nat) : Int) := by
    show IntKind.i64.wrap ((i : Int) + 1) = _
    rw [wi64 (by omega) (by omega)]; push_cast; rfl
   refine Om.of _ (str_take Tryz.underlying9 (l := l) (j := i) .i64 (by omega)) ?_
   conv => whnf
   have e2 : IntKind.i64.wrap (ixI (some i) + ((bs ⟨#[c]⟩).length : Int)) = ((i + 1 : Nat) : Int) := e1
   rw [e2]
   refine Om.of _ (str_drop Tryz.underlying9 (l := l) (j := i + 1) .i64 (by omega)) ?_
   conv => whnf
   exact ⟨rfl, rfl⟩
theorem cut_spec (s : St) (l : List UInt8) (hl : l.length < 4611686018427387904) (c : UInt8) : Cw Tryz.prog 74 [sv l, sv [c]] s fun r s' => s' = s ∧ r = cutF l c := by
 refine Cw.enterS Tryz.func74 rfl rfl ?_
 refine Sm.seqW ?_
 conv => whnf
 refine Sm.seqW ?_
 conv => whnf
 refine (lcut_spec _ l hl c).mono ?_
 rintro r s1 ⟨h1, hr⟩
 obtain rfl := h1.symm
 unfold cutF at hr ⊢
 cases hi : idxL c.toNat l 0 with
 | none =>
   rw [hi] at hr
   subst hr
   conv => whnf
   refine Sm.ofW ?_
   conv => whnf
   exact ⟨rfl, rfl⟩
 | some i =>
   rw [hi] at hr
   subst hr
   conv => whnf
   refine Sm.ofW ?_
   conv => whnf
   exact ⟨rfl, rfl⟩
/-! ### the figures' set -/
def isD (b : UInt8) : Bool := decide (48 ≤ b.toNat ∧ b.toNat ≤ 57)
def natB (l : List Bool) : List Value := l.map Value.bool
def figB (i : Nat) : List Bool := (List.range 256).map fun k => decide (48 ≤ k ∧ k < 48 + i)
abbrev figs : List UInt8 := [48, 49, 50, 51, 52, 53, 54, 55, 56, 57]
theorem figB_len (i : Nat) : (figB i).length = 256 := by simp [figB]
theorem natB_len (l : List Bool) : (natB l).length = l.length := by simp [natB]
theorem natB_set (l : List Bool) (k : Nat) (b : Bool) : (natB l).set k (.bool b) = natB (l.set k b) := by simp [natB, List.map_set]
theorem figB_step : ∀ i, i < 10 → (figB i).set (48 + i) true = figB (i + 1) := by decide +kernel
theorem figs_at : ∀ i, (h : i < 10) → (figs[i]'h).toNat = 48 + i := by decide +kernel
theorem figB_get {k : Nat} (h : k < 256) : (natB (figB 10))[k]? = some (.bool (decide (48 ≤ k ∧ k ≤ 57))) := by
 unfold natB figB
 rw [List.map_map, List.getElem?_map, List.getElem?_range h]
 show some (Value.bool (decide (48 ≤ k ∧ k < 48 + 10))) = _
 have : decide (48 ≤ k ∧ k < 48 + 10) = decide (48 ≤ k ∧ k ≤ 57) := decide_eq_decide.2 (by omega)
 rw [this]
theorem asciiSet_spec {z : St} (wf : WF z) : Cw Tryz.prog 162 [sv figs] z fun r s' => K0 z s' ∧ r = .tuple #[.agg (natB (figB 10)).toArray, .bool true] := by
 have hp : Hp (fun _ => False) z [] [] z := Hp.start _ wf _ (by simp)
 refine Cw.enterS Tryz.func162 rfl rfl ?_
 refine Sm.seqW ?_
 conv => whnf
 refine hp.alloc (cs := natB (figB 0)) (e := 1) rfl rfl rfl (by kernel_rfl) rfl ?_
 clear hp
 intro p2 s hp _
 conv => whnf
 refine Sm.live [0, 2] ?_
 conv => whnf
 refine Sm.seq ?_
 refine Sm.seqW ?_
 conv => whnf
 refine Sm.block ?_
 refine Sm.loop ?_
 refine Lp.ofS (α := Nat) (fun i => [(0, sv figs), (2, .pointer (some ⟨p2, 0, none⟩)), (4, .int .i64 (i : Int))])
  (fun i s' => i ≤ 10 ∧ Hp (fun _ => False) z [] [blkA p2 p2 (natB (figB i)) 1] s') (fun i => 10 - i) ?_ 0 (subK_ok (by refine ⟨rfl, rfl, rfl, trivial⟩)) ⟨by decide, hp⟩
 clear hp
 rintro i s ⟨hi, hp⟩
 refine Sm.seq ?_
 refine Sm.seqW ?_
 conv => whnf
 refine Sm.ofW ?_
 conv => whnf
 refine Br.mk (fun hc => ?_) (fun hc => ?_)
 · have hc : i < 10 := by have h : (i : Int) < 10 := of_decide_eq_true hc; omega
   conv => whnf
   refine Sm.seq ?_
   refine Sm.block ?_
   refine Sm.seqW ?_
   conv => whnf
   refine Om.of _ (str_index Tryz.underlying9 (l := figs) (i := i) hc .i64) ?_
   conv => whnf
   rw [figs_at i hc]
   refine Sm.live [0, 2, 4, 5] ?_
   conv => whnf
   refine Sm.seq ?_
   refine Sm.seqW ?_
   conv => whnf
   refine Sm.ofW ?_
   conv => whnf
   refine Br.no (decide_eq_false (by omega)) ?_
   conv => whnf
   refine Sm.ofW ?_
   conv => whnf
   have hix : evIndexAddr Tryz.prog 209 (.pointer (some ⟨p2, 0, none⟩)) (.int .u8 ((48 + i : Nat) : Int)) = some (.pointer (some ⟨p2, 0 + (48 + i), none⟩)) := ixA Tryz.underlying209 (by rfl) rfl .u8 (by omega)
   refine Om.of _ (hix) ?_
   conv => whnf
   refine hp.store .d (by rw [natB_len, figB_len]; omega) rfl rfl rfl rfl ?_
   clear hp
   intro s hp _
   rw [show 0 + (48 + i) = 48 + i by omega, natB_set, figB_step i hc] at hp
   conv => whnf
   refine Sm.ofW ?_
   conv => whnf
   have ei : IntKind.i64.wrap ((i : Int) + 1) = ((i + 1 : Nat) : Int) := by rw [wi64 (by omega) (by omega)]; push_cast; rfl
   exact ⟨i + 1, by (show 10 - (i + 1) < 10 - i); omega, subK_ok (by refine ⟨rfl, rfl, congrArg (fun x => some (Value.int .i64 x)) ei, trivial⟩), by omega, hp⟩
 · have hc : ¬ i < 10 := by have h : ¬ (i : Int) < 10 := of_decide_eq_false hc; omega
   obtain rfl : i = 10 := by omega
   conv => whnf
   refine Sm.seqW ?_
   conv => whnf
   refine hp.loadA (l := natB (figB 10)) .d rfl (sl_all (by rw [natB_len, figB_len]; rfl)) rfl rfl ?_
   conv => whnf
   refine hp.storeW (vs := natB (figB 10)) rfl .d rfl rfl (by rw [natB_len, figB_len]; rfl) (by kernel_rfl) ?_
   clear hp
   intro s hp _
   conv => whnf
   refine Sm.ofW ?_
   conv => whnf
   refine hp.loadA (l := natB (figB 10)) .d rfl (sl_all (by rw [natB_len, figB_len]; rfl)) rfl rfl ?_
   conv => whnf
   exact ⟨hp.fr, rfl⟩
theorem contains_spec {s : St} {k p e : Nat} (hb : Blk s k p (natB (figB 10)) e) (c : UInt8) : Cw Tryz.prog 163 [.pointer (some ⟨p, 0, none⟩), .int .u8 ((c.toNat : Nat) : Int)] s fun r s' => s' = s ∧ r = .bool (isD c) := by
 have hc := c.toNat_lt
 refine Cw.enterS Tryz.func163 rfl rfl ?_
 refine Sm.seqW ?_
 conv => whnf
 refine Sm.seqW ?_
 conv => whnf
 have hix : evIndexAddr Tryz.prog 209 (.pointer (some ⟨p, 0, none⟩)) (.int .u8 ((c.toNat : Nat) : Int)) = some (.pointer (some ⟨p, 0 + c.toNat, none⟩)) := ixA Tryz.underlying209 (by rfl) rfl .u8 hc
 refine Om.of _ (hix) ?_
 conv => whnf
 refine Om.of _ (load_cell (v := .bool (isD c)) Tryz.underlying4 rfl rfl hb.rd (by rw [Nat.zero_add]; exact figB_get hc)) ?_
 conv => whnf
 refine Sm.ofW ?_
 conv => whnf
 exact ⟨rfl, rfl⟩
end

/- Texts: Trim of figures; dec.run. No condition. -/
section
variable [Lk]
def dropR (l : List UInt8) : List UInt8 := (l.reverse.dropWhile isD).reverse
theorem dropR_snoc (l : List UInt8) {c : UInt8} (h : isD c = true) : dropR (l ++ [c]) = dropR l := by simp [dropR, h]
theorem dropR_keep (l : List UInt8) {c : UInt8} (h : isD c = false) : dropR (l ++ [c]) = l ++ [c] := by simp [dropR, h]
theorem dw_all : ∀ L : List UInt8, (∀ x ∈ L.dropWhile isD, isD x = true) → ∀ x ∈ L, isD x = true
 | [], _ => by simp
 | a :: L, h => by
   by_cases ha : isD a = true
   · rw [List.dropWhile_cons_of_pos ha] at h
     intro x hx
     rcases List.mem_cons.1 hx with rfl | hx
     · exact ha
     · exact dw_all L h x hx
   · rw [List.dropWhile_cons_of_neg ha] at h
     exact absurd (h a (by simp)) ha
theorem dw_nil : ∀ L : List UInt8, L.dropWhile isD = [] ↔ ∀ x ∈ L, isD x = true
 | [] => by simp
 | a :: L => by
   by_cases ha : isD a = true
   · rw [List.dropWhile_cons_of_pos ha, dw_nil L]
     simp [ha]
   · rw [List.dropWhile_cons_of_neg ha]
     simp [ha]
theorem trim_nil (l : List UInt8) : ((dropR l).dropWhile isD == []) = l.all isD := by
 rw [Bool.eq_iff_iff, beq_iff_eq, dw_nil, List.all_eq_true]
 unfold dropR
 constructor
 · intro h x hx
   exact dw_all l.reverse (fun y hy => h y (by simpa using hy)) x (by simpa using hx)
 · intro h x hx
   rw [List.mem_reverse] at hx
   exact h x (by simpa using (List.dropWhile_sublist isD).subset hx)
theorem trimLeft_spec {s : St} {k p e : Nat} (hb : Blk s k p (natB (figB 10)) e) (l : List UInt8) : Cw Tryz.prog 173 [sv l, .pointer (some ⟨p, 0, none⟩)] s fun r s' => s' = s ∧ r = sv (l.dropWhile isD) := by
 refine Cw.enterS Tryz.func173 rfl rfl ?_
 refine Sm.seqW ?_
 conv => whnf
 refine Sm.seq ?_
 refine Sm.block ?_
 refine Sm.loop ?_
 refine Lp.ofS (α := List UInt8) (fun m => [(0, sv m), (1, .pointer (some ⟨p, 0, none⟩))]) (fun m s' => s' = s ∧ l.dropWhile isD = m.dropWhile isD) (fun m => m.length) ?_ l (subK_ok (by refine ⟨rfl, rfl, trivial⟩)) ⟨rfl, rfl⟩
 rintro m s1 ⟨h1, hm⟩
 obtain rfl := h1.symm
 cases m with
 | nil =>
   refine Sm.seq ?_
   refine Sm.seqW ?_
   conv => whnf
   refine Sm.ofW ?_
   conv => whnf
   repeat ((first | refine Br.y1 ?_ | refine Br.n1 ?_); conv => whnf)
   refine Sm.seqW ?_
   conv => whnf
   refine Sm.ofW ?_
   conv => whnf
   exact ⟨rfl, by rw [hm]; rfl⟩
 | cons c m =>
   have hd : decide ((((c :: m) : List UInt8).length : Int) > 0) = true := decide_eq_true (by simp)
   refine Sm.seq ?_
   refine Sm.seqW ?_
   conv => whnf
   refine Sm.ofW ?_
   conv => whnf
   refine Br.yes (hd) ?_
   conv => whnf
   refine Sm.block ?_
   refine Sm.seq ?_
   refine Sm.seqW ?_
   conv => whnf
   refine Om.of _ (str_index Tryz.underlying9 (l := c :: m) (i := 0) (by simp) .i64) ?_
   conv => whnf
   refine (contains_spec hb c).mono ?_
   rintro _ s1 ⟨h1, rfl⟩
   obtain rfl := h1.symm
   conv => whnf
   refine Sm.ofW ?_
   conv => whnf
   cases hcd : isD c with
   | false =>
     repeat ((first | refine Br.y1 ?_ | refine Br.n1 ?_); conv => whnf)
     refine Sm.seqW ?_
     conv => whnf
     refine Sm.ofW ?_
     conv => whnf
     refine ⟨rfl, ?_⟩
     rw [hm, List.dropWhile_cons_of_neg (by rw [hcd]; decide)]
     rfl
   | true =>
     repeat ((first | refine Br.y1 ?_ | refine Br.n1 ?_); conv => whnf)
     refine Sm.ofW ?_
     conv => whnf
     refine Om.of _ (str_drop Tryz.underlying9 (l := c :: m) (j := 1) .i64 (by simp)) ?_
     conv => whnf
     exact ⟨m, by simp, subK_ok (by refine ⟨rfl, rfl, trivial⟩), rfl, by rw [hm, List.dropWhile_cons_of_pos hcd]⟩
theorem trimRight_spec {s : St} {k p e : Nat} (hb : Blk s k p (natB (figB 10)) e) (l : List UInt8) (hl : l.length < 4611686018427387904) : Cw Tryz.prog 174 [sv l, .pointer (some ⟨p, 0, none⟩)] s fun r s' => s' = s ∧ r = sv (dropR l) := by
 refine Cw.enterS Tryz.func174 rfl rfl ?_
 refine Sm.seqW ?_
 conv => whnf
 refine Sm.seq ?_
 refine Sm.block ?_
 refine Sm.loop ?_
 refine Lp.ofS (α := List UInt8) (fun m => [(0, sv m), (1, .pointer (some ⟨p, 0, none⟩))]) (fun m s' => s' = s ∧ m.length ≤ l.length ∧ dropR l = dropR m) (fun m => m.length) ?_ l (subK_ok (by refine ⟨rfl, rfl, trivial⟩)) ⟨rfl, Nat.le_refl _, rfl⟩
 rintro m s1 ⟨h1, hml, hm⟩
 obtain rfl := h1.symm
 by_cases h0 : m = []
 · subst h0
   refine Sm.seq ?_
   refine Sm.seqW ?_
   conv => whnf
   refine Sm.ofW ?_
   conv => whnf
   repeat ((first | refine Br.y1 ?_ | refine Br.n1 ?_); conv => whnf)
   refine Sm.seqW ?_
   conv => whnf
   refine Sm.ofW ?_
   conv => whnf
   exact ⟨rfl, by rw [hm]; rfl⟩
 · obtain ⟨m, c, rfl⟩ : ∃ m' c, m = m' ++ [c] := ⟨m.dropLast, m.getLast h0, (List.dropLast_concat_getLast h0).symm⟩
   have hlen : (m ++ [c]).length = m.length + 1 := by simp
   have hd : decide (((m ++ [c]).length : Int) > 0) = true := decide_eq_true (by omega)
   have ek : IntKind.i64.wrap (((bs ⟨(m ++ [c]).toArray⟩).length : Int) - 1) = (m.length : Int) := by rw [bs_mk, hlen, wi64 (by omega) (by omega)]; omega
   have hg : (m ++ [c])[m.length]'(by omega) = c := by simp
   refine Sm.seq ?_
   refine Sm.seqW ?_
   conv => whnf
   refine Sm.ofW ?_
   conv => whnf
   refine Br.yes (hd) ?_
   conv => whnf
   refine Sm.block ?_
   refine Sm.seq ?_
   refine Sm.seqW ?_
   conv => whnf
   rw [ek]
   refine Om.of _ (str_index Tryz.underlying9 (l := m ++ [c]) (i := m.length) (by omega) .i64) ?_
   conv => whnf
   rw [hg]
   refine (contains_spec hb c).mono ?_
   rintro _ s1 ⟨h1, rfl⟩
   obtain rfl := h1.symm
   conv => whnf
   refine Sm.ofW ?_
   conv => whnf
   cases hcd : isD c with
   | false =>
     repeat ((first | refine Br.y1 ?_ | refine Br.n1 ?_); conv => whnf)
     refine Sm.seqW ?_
     conv => whnf
     refine Sm.ofW ?_
     conv => whnf
     refine ⟨rfl, ?_⟩
     rw [hm, dropR_keep m hcd]
     rfl
   | true =>
     repeat ((first | refine Br.y1 ?_ | refine Br.n1 ?_); conv => whnf)
     refine Sm.ofW ?_
     conv => whnf
     rw [ek]
     refine Om.of _ (str_take Tryz.underlying9 (l := m ++ [c]) (j := m.length) .i64 (by omega)) ?_
     conv => whnf
     have ht : (m ++ [c]).take m.length = m := by simp
     rw [ht]
     conv => whnf
     exact ⟨m, by (show m.length < (m ++ [c]).length); omega, subK_ok (by refine ⟨rfl, rfl, trivial⟩), rfl, by omega, by rw [hm, dropR_snoc m hcd]⟩
theorem trimF_spec {z : St} (wf : WF z) (l : List UInt8) (hl : l.length < 4611686018427387904) : Cw Tryz.prog 148 [sv l, sv figs] z fun r s' => K0 z s' ∧ r = sv ((dropR l).dropWhile isD) := by
 have hp : Hp (fun _ => False) z [] [] z := Hp.start _ wf _ (by simp)
 refine Cw.enterS Tryz.func148 rfl rfl ?_
 refine Sm.seqW ?_
 conv => whnf
 refine Sm.seq ?_
 refine Sm.seqW ?_
 conv => whnf
 refine Om.of _ (sv_eq l []) ?_
 conv => whnf
 by_cases h0 : l = []
 · subst h0
   have hq : (([] : List UInt8) == []) = true := rfl
   rw [hq]
   repeat ((first | refine Br.y1 ?_ | refine Br.n1 ?_); conv => whnf)
   refine Sm.ofW ?_
   conv => whnf
   repeat ((first | refine Br.y1 ?_ | refine Br.n1 ?_); conv => whnf)
   exact ⟨hp.fr, rfl⟩
 have hq : (l == []) = false := beq_eq_false_iff_ne.2 h0
 rw [hq]
 repeat ((first | refine Br.y1 ?_ | refine Br.n1 ?_); conv => whnf)
 refine Om.of _ (sv_eq figs []) ?_
 conv => whnf
 repeat ((first | refine Br.y1 ?_ | refine Br.n1 ?_); conv => whnf)
 refine Sm.ofW ?_
 conv => whnf
 repeat ((first | refine Br.y1 ?_ | refine Br.n1 ?_); conv => whnf)
 refine Sm.seq ?_
 refine Sm.seqW ?_
 conv => whnf
 repeat ((first | refine Br.y1 ?_ | refine Br.n1 ?_); conv => whnf)
 refine Sm.ofW ?_
 conv => whnf
 repeat ((first | refine Br.y1 ?_ | refine Br.n1 ?_); conv => whnf)
 refine Sm.seq ?_
 refine Sm.seqW ?_
 conv => whnf
 refine hp.call (asciiSet_spec hp.wf) ?_
 clear hp
 rintro _ s rfl hp _
 conv => whnf
 refine hp.alloc (cs := natB (figB 0)) (e := 1) rfl rfl rfl (by kernel_rfl) rfl ?_
 clear hp
 intro p5 s hp _
 conv => whnf
 refine hp.storeW (C := natB (figB 0)) (vs := natB (figB 10)) rfl .d (by rw [natB_len, natB_len, figB_len, figB_len]) rfl (by rw [natB_len, figB_len]; rfl) (by kernel_rfl) ?_
 clear hp
 intro s hp _
 conv => whnf
 refine Sm.seqW ?_
 conv => whnf
 refine Sm.ofW ?_
 conv => whnf
 repeat ((first | refine Br.y1 ?_ | refine Br.n1 ?_); conv => whnf)
 refine (trimRight_spec (hp.blk (k := p5) .d) l hl).mono ?_
 rintro _ s1 ⟨h1, rfl⟩
 obtain rfl := h1.symm
 conv => whnf
 refine (trimLeft_spec (hp.blk (k := p5) .d) (dropR l)).mono ?_
 rintro _ s1 ⟨h1, rfl⟩
 obtain rfl := h1.symm
 conv => whnf
 exact ⟨hp.fr, rfl⟩
def runF (l : List UInt8) (most : Nat) : Bool := !(l == []) && (decide (l.length ≤ most) && l.all isD)
theorem run_spec {z : St} (wf : WF z) (l : List UInt8) (hl : l.length < 4611686018427387904) (most : Nat) : Cw Tryz.prog 130 [sv l, .int .i64 (most : Int)] z fun r s' => K0 z s' ∧ r = .bool (runF l most) := by
 have hp : Hp (fun _ => False) z [] [] z := Hp.start _ wf _ (by simp)
 refine Cw.enterS Tryz.func130 rfl rfl ?_
 refine Sm.seqW ?_
 conv => whnf
 refine Sm.seqW ?_
 conv => whnf
 refine Om.of _ (sv_ne l []) ?_
 conv => whnf
 unfold runF
 by_cases h0 : l = []
 · subst h0
   have hq : (!(([] : List UInt8) == [])) = false := rfl
   rw [hq]
   repeat ((first | refine Br.y1 ?_ | refine Br.n1 ?_); conv => whnf)
   refine Sm.ofW ?_
   conv => whnf
   exact ⟨hp.fr, rfl⟩
 have hq : (!(l == [])) = true := by rw [beq_eq_false_iff_ne.2 h0]; rfl
 rw [hq]
 repeat ((first | refine Br.y1 ?_ | refine Br.n1 ?_); conv => whnf)
 by_cases hm : l.length ≤ most
 · have hd : decide ((l.length : Int) ≤ (most : Int)) = true := decide_eq_true (by omega)
   repeat (first | (refine Br.yes hd ?_; conv => whnf) | ((first | refine Br.y1 ?_ | refine Br.n1 ?_); conv => whnf))
   refine hp.call (trimF_spec hp.wf l hl) ?_
   clear hp
   rintro _ s rfl hp _
   conv => whnf
   repeat (first | (refine Br.yes hd ?_; conv => whnf) | ((first | refine Br.y1 ?_ | refine Br.n1 ?_); conv => whnf))
   refine Om.of _ (sv_eq ((dropR l).dropWhile isD) []) ?_
   conv => whnf
   repeat (first | (refine Br.yes hd ?_; conv => whnf) | ((first | refine Br.y1 ?_ | refine Br.n1 ?_); conv => whnf))
   refine Sm.ofW ?_
   conv => whnf
   refine ⟨hp.fr, congrArg Value.bool ?_⟩
   rw [trim_nil, decide_eq_true hm]
   rfl
 · have hd : decide ((l.length : Int) ≤ (most : Int)) = false := decide_eq_false (by omega)
   repeat (first | (refine Br.no hd ?_; conv => whnf) | ((first | refine Br.y1 ?_ | refine Br.n1 ?_); conv => whnf))
   refine Sm.ofW ?_
   conv => whnf
   refine ⟨hp.fr, congrArg Value.bool ?_⟩
   rw [decide_eq_false hm]
   rfl
end

/- dec.Read walked. No condition. -/
section
variable [Lk]
def valD (l : List UInt8) : Nat := l.foldl (fun a b => 10 * a + (b.toNat - 48)) 0
theorem valD_snoc (l : List UInt8) (c : UInt8) : valD (l ++ [c]) = 10 * valD l + (c.toNat - 48) := by simp [valD]
def bodyF (l : List UInt8) : List UInt8 := if hasP l [45] = true then l.drop 1 else l
def wholeF (b : List UInt8) : List UInt8 := match idxL 46 b 0 with
 | some i => b.take i
 | none => b
def restF (b : List UInt8) : List UInt8 := match idxL 46 b 0 with
 | some i => b.drop (i + 1)
 | none => []
def pointF (b : List UInt8) : Bool := (idxL 46 b 0).isSome
def readOk (b : List UInt8) : Bool := runF (wholeF b) 30 && (!pointF b || runF (restF b) 9)
def readF (l : List UInt8) : Value :=
 if readOk (bodyF l) = false then errD 2 else if 10 ^ 30 ≤ valD (wholeF (bodyF l) ++ restF (bodyF l)) then errD 3
 else if (hasP l [45] && decide (valD (wholeF (bodyF l) ++ restF (bodyF l)) = 0)) = true then errD 2 else okD ⟨hasP l [45], valD (wholeF (bodyF l) ++ restF (bodyF l)), (restF (bodyF l)).length⟩
theorem cutP_eq (l : List UInt8) : cutP l [45] = .tuple #[sv (bodyF l), .bool (hasP l [45])] := by
 unfold cutP bodyF
 cases hasP l [45] <;> rfl
theorem cutF_eq (b : List UInt8) : cutF b 46 = .tuple #[sv (wholeF b), sv (restF b), .bool (pointF b)] := by
 unfold cutF wholeF restF pointF
 show (match idxL 46 b 0 with
  | some i => Value.tuple #[sv (b.take i), sv (b.drop (i + 1)), .bool true]
  | none => .tuple #[sv b, sv [], .bool false]) = _
 cases idxL 46 b 0 <;> rfl
theorem body_len (l : List UInt8) : (bodyF l).length ≤ l.length := by
 unfold bodyF; split <;> simp
theorem whole_len (b : List UInt8) : (wholeF b).length ≤ b.length := by
 unfold wholeF; split <;> simp; omega
theorem rest_len (b : List UInt8) : (restF b).length ≤ b.length := by
 unfold restF; split <;> simp
theorem runF_ok {l : List UInt8} {m : Nat} (h : runF l m = true) : l ≠ [] ∧ l.length ≤ m ∧ ∀ x ∈ l, isD x = true := by
 unfold runF at h
 simp only [Bool.and_eq_true, Bool.not_eq_true', beq_eq_false_iff_ne, decide_eq_true_eq, List.all_eq_true] at h
 exact h
theorem readOk_ok {b : List UInt8} (h : readOk b = true) : (wholeF b ++ restF b).length ≤ 39 ∧ ∀ x ∈ wholeF b ++ restF b, isD x = true := by
 unfold readOk at h
 simp only [Bool.and_eq_true, Bool.or_eq_true, Bool.not_eq_true'] at h
 obtain ⟨_, h1, h2⟩ := runF_ok h.1
 rcases h.2 with g | g
 · have : restF b = [] := by
    unfold pointF at g
    unfold restF
    cases hi : idxL 46 b 0 with
    | none => rfl
    | some i => rw [hi] at g; cases g
   rw [this, List.append_nil]
   exact ⟨by omega, h2⟩
 · obtain ⟨_, g1, g2⟩ := runF_ok g
   refine ⟨by simp; omega, fun x hx => ?_⟩
   rcases List.mem_append.1 hx with k | k
   · exact h2 x k
   · exact g2 x k
theorem BD : SlT Tryz.prog 59 5 1 1 (.int .u8 0) := ⟨Tryz.underlying59, ⟨_, rfl, rfl, rfl, rfl⟩, rfl, rfl, by decide, by decide⟩
theorem isD_d {c : UInt8} (h : isD c = true) : 48 ≤ c.toNat ∧ c.toNat ≤ 57 := of_decide_eq_true h
structure RdOk (W : List UInt8) (i c : Nat) (over : Bool) : Prop where
 c30 : c < 10 ^ 30
 ov : over = decide (10 ^ 30 ≤ valD (W.take i))
 val : over = false → c = valD (W.take i)
theorem read_spec {z : St} (wf : WF z) (l : List UInt8) (hl : l.length < 4611686018427387904) : Cw Tryz.prog 102 [sv l] z fun r s' => K0 z s' ∧ r = readF l := by
 have hp : Hp (fun _ => False) z [] [] z := Hp.start _ wf _ (by simp)
 have hb := body_len l
 have hw := whole_len (bodyF l)
 have hr := rest_len (bodyF l)
 refine Cw.enterS Tryz.func102 rfl rfl ?_
 refine Sm.seqW ?_
 conv => whnf
 refine hp.alloc (cs := Dc.zero.cells) (e := 4) rfl rfl rfl rfl rfl ?_
 clear hp
 intro p2 s hp _
 conv => whnf
 refine Sm.live [0, 2] ?_
 conv => whnf
 refine Sm.seqW ?_
 conv => whnf
 refine (cutPrefix_spec _ l [45]).mono ?_
 rintro _ s1 ⟨h1, rfl⟩
 obtain rfl := h1.symm
 conv => whnf
 rw [cutP_eq]
 conv => whnf
 refine Sm.live [2, 4, 5] ?_
 conv => whnf
 refine Sm.seqW ?_
 conv => whnf
 refine (cut_spec _ (bodyF l) (by omega) 46).mono ?_
 rintro _ s1 ⟨h1, rfl⟩
 obtain rfl := h1.symm
 conv => whnf
 rw [cutF_eq]
 conv => whnf
 refine Sm.live [2, 5, 6, 7, 8] ?_
 conv => whnf
 have hread : readF l = if readOk (bodyF l) = false then errD 2 else if 10 ^ 30 ≤ valD (wholeF (bodyF l) ++ restF (bodyF l)) then errD 3
  else if (hasP l [45] && decide (valD (wholeF (bodyF l) ++ restF (bodyF l)) = 0)) = true then errD 2 else okD ⟨hasP l [45], valD (wholeF (bodyF l) ++ restF (bodyF l)), (restF (bodyF l)).length⟩ := rfl
 have hokk := readOk_ok (b := bodyF l)
 have hdef : readOk (bodyF l) = (runF (wholeF (bodyF l)) 30 && (!pointF (bodyF l) || runF (restF (bodyF l)) 9)) := rfl
 generalize wholeF (bodyF l) = W at *
 generalize restF (bodyF l) = R at *
 generalize pointF (bodyF l) = pt at *
 generalize hasP l [45] = ng at *
 generalize readOk (bodyF l) = ok at *
 generalize readF l = RF at *
 refine Sm.seq ?_
 refine Sm.seqC (fun e L' s' => e = .normal ∧ Hp (fun _ => False) z [] [blkA p2 p2 Dc.zero.cells 4] s' ∧ Sub [(2, .pointer (some ⟨p2, 0, none⟩)), (5, .bool ng), (6, sv W), (7, sv R), (37, .bool (!ok))] L') ?_ ?_
 · conv => whnf
   refine hp.call (run_spec hp.wf W (by omega) 30) ?_
   clear hp
   rintro _ s rfl hp _
   conv => whnf
   cases h1 : runF W 30 with
   | false =>
     have : ok = false := by rw [hdef, h1]; rfl
     subst this
     repeat ((first | refine Br.y1 ?_ | refine Br.n1 ?_); conv => whnf)
     exact ⟨rfl, hp, subK_ok ⟨rfl, rfl, rfl, rfl, rfl, trivial⟩⟩
   | true =>
     repeat ((first | refine Br.y1 ?_ | refine Br.n1 ?_); conv => whnf)
     cases pt with
     | false =>
       have : ok = true := by rw [hdef, h1]; rfl
       subst this
       repeat ((first | refine Br.y1 ?_ | refine Br.n1 ?_); conv => whnf)
       exact ⟨rfl, hp, subK_ok ⟨rfl, rfl, rfl, rfl, rfl, trivial⟩⟩
     | true =>
       repeat ((first | refine Br.y1 ?_ | refine Br.n1 ?_); conv => whnf)
       refine hp.call (run_spec hp.wf R (by omega) 9) ?_
       clear hp
       rintro _ s rfl hp _
       conv => whnf
       have : ok = runF R 9 := by rw [hdef, h1]; rfl
       rw [← this]
       repeat ((first | refine Br.y1 ?_ | refine Br.n1 ?_); conv => whnf)
       exact ⟨rfl, hp, subK_ok ⟨rfl, rfl, rfl, rfl, rfl, trivial⟩⟩
 clear hp
 rintro e L' s ⟨rfl, hp, hs⟩
 refine Sm.weak _ hs ?_
 clear hs
 refine Sm.ofW ?_
 conv => whnf
 cases ok with
 | false =>
   repeat ((first | refine Br.y1 ?_ | refine Br.n1 ?_); conv => whnf)
   refine hp.storeW (vs := Dc.zero.cells) rfl .d csx rfl rfl rfl ?_
   clear hp
   intro s hp _
   conv => whnf
   refine hp.loadA (l := Dc.zero.cells) .d rfl (by rfl) rfl rfl ?_
   conv => whnf
   refine ⟨hp.fr, ?_⟩
   rw [hread, if_pos rfl]
   rfl
 | true =>
   rw [if_neg (by decide)] at hread
   obtain ⟨h39, hall⟩ := hokk rfl
   repeat ((first | refine Br.y1 ?_ | refine Br.n1 ?_); conv => whnf)
   refine Sm.seqW ?_
   conv => whnf
   refine hp.call (lOf_spec hp.wf (a := 0) (by decide)) ?_
   clear hp
   rintro _ s rfl hp _
   conv => whnf
   refine hp.alloc (cs := C2 0 0) (e := 1) rfl rfl rfl rfl rfl ?_
   clear hp
   intro p9 s hp _
   conv => whnf
   refine hp.storeW (vs := C2 (0 % w64) (0 / w64)) rfl .d csx rfl rfl rfl ?_
   clear hp
   intro s hp _
   conv => whnf
   refine Sm.live [2, 5, 6, 7, 9, 10] ?_
   conv => whnf
   refine Sm.seq ?_
   refine Sm.seqW ?_
   conv => whnf
   refine Om.of _ (str_add ⟨W.toArray⟩ ⟨R.toArray⟩ (by rw [bs_mk, bs_mk]; simp at h39; omega)) ?_
   conv => whnf
   have e0 : bs ⟨(bs ⟨W.toArray⟩ ++ bs ⟨R.toArray⟩).toArray⟩ = W ++ R := rfl
   refine hp.bytesOf Tryz.underlying9 Tryz.underlying59 Tryz.underlying5 ⟨(bs ⟨W.toArray⟩ ++ bs ⟨R.toArray⟩).toArray⟩ ?_
   clear hp
   intro pb s hp _
   rw [e0] at hp ⊢
   generalize hWR : W ++ R = Y at *
   conv => whnf
   refine Sm.block ?_
   refine Sm.loop ?_
   refine Lp.ofS (α := Nat × Nat × Bool) (fun x => [(2, .pointer (some ⟨p2, 0, none⟩)), (5, .bool ng), (7, sv R), (9, .pointer (some ⟨p9, 0, none⟩)), (10, .bool x.2.2), (43, .slice (some ⟨pb, 0, none⟩) Y.length Y.length), (44, .int .i64 (Y.length : Int)), (45, .int .i64 (x.1 : Int))])
    (fun x s' => x.1 ≤ Y.length ∧ RdOk Y x.1 x.2.1 x.2.2 ∧ Hp (fun _ => False) z [] [blkA pb pb (byteVals Y) 1, blkA p9 p9 (C2 (x.2.1 % w64) (x.2.1 / w64)) 1, blkA p2 p2 Dc.zero.cells 4] s') (fun x => Y.length - x.1) ?_ (0, 0, false) (subK_ok (by refine ⟨rfl, rfl, rfl, rfl, rfl, rfl, rfl, rfl, trivial⟩)) ⟨Nat.zero_le _, ⟨by decide, by simp [valD], fun _ => by simp [valD]⟩, hp⟩
   clear hp
   rintro ⟨i, c, ov⟩ s ⟨hi, ok, hp⟩
   simp only at hi ok hp
   refine Sm.seqW ?_
   conv => whnf
   refine Sm.seq ?_
   refine Sm.ofW ?_
   conv => whnf
   refine Br.mk (fun hc => ?_) (fun hc => ?_)
   · have hc : i < Y.length := by have h : (i : Int) < (Y.length : Int) := of_decide_eq_true hc; omega
     obtain ⟨d1, d2⟩ := isD_d (hall Y[i] (List.getElem_mem hc))
     have htake : Y.take (i + 1) = Y.take i ++ [Y[i]] := List.take_succ_eq_append_getElem hc
     have hval : valD (Y.take (i + 1)) = 10 * valD (Y.take i) + (Y[i].toNat - 48) := by rw [htake, valD_snoc]
     have c30 := ok.c30
     conv => whnf
     refine Sm.seq ?_
     refine Sm.block ?_
     refine Sm.seqW ?_
     conv => whnf
     have hix := idx_at (P := Tryz.prog) BD (b := pb) (off := 0) (c := Y.length) .i64 hc
     refine Om.of _ (hix) ?_
     conv => whnf
     refine hp.load (v := .int .u8 ((Y[i].toNat : Nat) : Int)) .d (by rw [Nat.zero_add, Nat.mul_one]; simp [byteVals, hc]) rfl rfl rfl ?_
     conv => whnf
     refine Sm.live [2, 5, 7, 9, 10, 12, 43, 44, 45] ?_
     conv => whnf
     refine Sm.seqW ?_
     conv => whnf
     refine ⟨[0, 0, 3, 7, 15, 31, 31, 0, 191, 511], by decide +kernel, by decide +kernel, ?_⟩
     conv => whnf
     refine hp.loadA (l := C2 (c % w64) (c / w64)) .d rfl (by rfl) rfl rfl ?_
     conv => whnf
     refine hp.rst.call (lOf_spec hp.rst.wf (a := 10) (by decide)) ?_
     rintro _ s1 rfl h1 k1
     conv => whnf
     refine hp.dkN h1 k1 ?_
     clear hp h1 k1
     intro s hp
     conv => whnf
     refine hp.rst.call (lMul_spec hp.rst.wf (a := c) (b := 10) (Nat.lt_trans c30 (by decide)) (by decide)) ?_
     rintro _ s1 rfl h1 k1
     conv => whnf
     refine hp.dkN h1 k1 ?_
     clear hp h1 k1
     intro s hp
     conv => whnf
     have hcm : c * 10 < w128 := Nat.lt_of_lt_of_le ((Nat.mul_lt_mul_right (by decide)).2 c30) (by decide)
     refine hp.rst.call (lShort_ok hp.rst.wf hcm) ?_
     rintro _ s1 rfl h1 k1
     conv => whnf
     refine hp.dkN h1 k1 ?_
     clear hp h1 k1
     intro s hp
     conv => whnf
     refine hp.rst.alloc (cs := C2 0 0) (e := 1) rfl rfl rfl rfl rfl ?_
     intro p13 s1 h1 k1
     conv => whnf
     refine hp.dkN h1 k1 ?_
     clear hp h1 k1
     intro s hp
     conv => whnf
     refine hp.rst.storeW (vs := C2 (c * 10 % w64) (c * 10 / w64)) rfl .d csx rfl rfl rfl ?_
     intro s1 h1 l1
     conv => whnf
     refine hp.dkW h1 l1 ?_
     clear hp h1 l1
     intro s hp
     conv => whnf
     refine Sm.live [2, 5, 7, 9, 10, 12, 13, 14, 43, 44, 45] ?_
     conv => whnf
     refine Sm.seqW ?_
     conv => whnf
     refine ⟨[0, 0, 2, 6, 14, 31, 63, 127, 127, 255, 1023], by decide +kernel, by decide +kernel, ?_⟩
     conv => whnf
     refine hp.loadA (l := C2 (c * 10 % w64) (c * 10 / w64)) .d rfl (by rfl) rfl rfl ?_
     conv => whnf
     have ed : IntKind.u64.wrap (IntKind.u8.wrap (((Y[i].toNat : Nat) : Int) - 48)) = ((Y[i].toNat - 48 : Nat) : Int) := by rw [wrap_u8i, wrap_u64i]; omega
     obtain ⟨d, hd⟩ : ∃ d, d = Y[i].toNat - 48 := ⟨_, rfl⟩
     have hd9 : d ≤ 9 := by omega
     rw [← hd] at hval ed
     rw [ed]
     refine hp.rst.call (lOf_spec hp.rst.wf (a := d) (by simp only [w64]; omega)) ?_
     rintro _ s1 rfl h1 k1
     conv => whnf
     refine hp.dkN h1 k1 ?_
     clear hp h1 k1
     intro s hp
     conv => whnf
     have hdw : d < w128 := by simp only [w128]; omega
     have hsum : c * 10 + d < w128 := by simp only [w128]; omega
     refine hp.rst.call (lAdd_ok hp.rst.wf hcm hdw hsum) ?_
     rintro _ s1 rfl h1 k1
     conv => whnf
     refine hp.dkN h1 k1 ?_
     clear hp h1 k1
     intro s hp
     conv => whnf
     refine hp.rst.storeW (vs := C2 ((c * 10 + d) % w64) ((c * 10 + d) / w64)) rfl .d csx rfl rfl rfl ?_
     intro s1 h1 l1
     conv => whnf
     refine hp.dkW h1 l1 ?_
     clear hp h1 l1
     intro s hp
     conv => whnf
     refine Sm.live [2, 5, 7, 9, 10, 13, 14, 15, 43, 44, 45] ?_
     conv => whnf
     have ov2 : ov = true → 10 ^ 30 ≤ valD (Y.take (i + 1)) := fun h => by
      have := ok.ov
      rw [h] at this
      have := of_decide_eq_true this.symm
      rw [hval]; omega
     have nov : ov = false → valD (Y.take (i + 1)) = c * 10 + d := fun h => by rw [hval, ← ok.val h]; omega
     obtain ⟨ov', hov'⟩ : ∃ o, o = decide (10 ^ 30 ≤ valD (Y.take (i + 1))) := ⟨_, rfl⟩
     obtain ⟨c', hc'⟩ : ∃ c', c' = if ov' = true then c else c * 10 + d := ⟨_, rfl⟩
     have ok2 : RdOk Y (i + 1) c' ov' := by
      refine ⟨?_, hov', fun h => ?_⟩
      · rw [hc']
        split
        · exact c30
        · rename_i g
          have g' : ov' = false := by simpa using g
          have h1 : ¬ 10 ^ 30 ≤ valD (Y.take (i + 1)) := by rw [g'] at hov'; exact of_decide_eq_false hov'.symm
          cases hov : ov with
          | true => exact absurd (ov2 hov) h1
          | false => rw [← nov hov]; omega
      · rw [hc', h, if_neg (by decide)]
        have h1 : ¬ 10 ^ 30 ≤ valD (Y.take (i + 1)) := by rw [h] at hov'; exact of_decide_eq_false hov'.symm
        cases hov : ov with
        | true => exact absurd (ov2 hov) h1
        | false => exact (nov hov).symm
     have ei : IntKind.i64.wrap ((i : Int) + 1) = ((i + 1 : Nat) : Int) := by rw [wi64 (by omega) (by omega)]; push_cast; rfl
     refine Sm.seqC (fun e L' s' => e = .normal ∧ Hp (fun _ => False) z [] [blkA pb pb (byteVals Y) 1, blkA p13 p13 (C2 ((c * 10 + d) % w64) ((c * 10 + d) / w64)) 1, blkA p9 p9 (C2 (c % w64) (c / w64)) 1, blkA p2 p2 Dc.zero.cells 4] s' ∧ Sub [(2, .pointer (some ⟨p2, 0, none⟩)), (5, .bool ng), (7, sv R), (9, .pointer (some ⟨p9, 0, none⟩)), (10, .bool ov'), (13, .pointer (some ⟨p13, 0, none⟩)), (43, .slice (some ⟨pb, 0, none⟩) Y.length Y.length), (44, .int .i64 (Y.length : Int)), (45, .int .i64 (i : Int))] L') ?_ ?_
     · conv => whnf
       cases hov : ov with
       | true =>
         have : ov' = true := by rw [hov']; exact decide_eq_true (ov2 hov)
         rw [this]
         repeat ((first | refine Br.y1 ?_ | refine Br.n1 ?_); conv => whnf)
         exact ⟨rfl, hp.pik (by repeat (first | exact Pik.nil | exact Pik.refl _ | exact Rm.here | apply Rm.there | apply Pik.cons | apply Pik.skip)), subK_ok ⟨rfl, rfl, rfl, rfl, rfl, rfl, rfl, rfl, rfl, trivial⟩⟩
       | false =>
         repeat ((first | refine Br.y1 ?_ | refine Br.n1 ?_); conv => whnf)
         refine hp.loadA (l := C2 ((c * 10 + d) % w64) ((c * 10 + d) / w64)) .d rfl (by rfl) rfl rfl ?_
         conv => whnf
         repeat ((first | refine Br.y1 ?_ | refine Br.n1 ?_); conv => whnf)
         refine hp.call (small_spec hp.wf hsum) ?_
         clear hp
         rintro _ s rfl hp _
         conv => whnf
         repeat ((first | refine Br.y1 ?_ | refine Br.n1 ?_); conv => whnf)
         have : ov' = !decide (c * 10 + d < 10 ^ 30) := by
          rw [hov', nov hov]
          by_cases g : c * 10 + d < 10 ^ 30
          · rw [decide_eq_true g, decide_eq_false (by omega)]; rfl
          · rw [decide_eq_false g, decide_eq_true (by omega)]; rfl
         rw [this]
         exact ⟨rfl, hp.pik (by repeat (first | exact Pik.nil | exact Pik.refl _ | exact Rm.here | apply Rm.there | apply Pik.cons | apply Pik.skip)), subK_ok ⟨rfl, rfl, rfl, rfl, rfl, rfl, rfl, rfl, rfl, trivial⟩⟩
     clear hp
     rintro e L' s ⟨rfl, hp, hs⟩
     refine Sm.weak _ hs ?_
     clear hs
     refine Sm.seqW ?_
     conv => whnf
     refine Sm.ofW ?_
     conv => whnf
     cases hv : ov' with
     | true =>
       rw [hv] at hc' ok2
       rw [if_pos rfl] at hc'
       subst hc'
       repeat ((first | refine Br.y1 ?_ | refine Br.n1 ?_); conv => whnf)
       refine Sm.ofW ?_
       conv => whnf
       exact ⟨(i + 1, c', true), by (show Y.length - (i + 1) < Y.length - i); omega, subK_ok (by refine ⟨rfl, rfl, rfl, rfl, rfl, rfl, rfl, congrArg (fun x => some (Value.int .i64 x)) ei, trivial⟩), (by (show i + 1 ≤ Y.length); omega), ok2, hp.pik (by repeat (first | exact Pik.nil | exact Pik.refl _ | exact Rm.here | apply Rm.there | apply Pik.cons | apply Pik.skip))⟩
     | false =>
       rw [hv] at hc' ok2
       rw [if_neg (by decide)] at hc'
       repeat ((first | refine Br.y1 ?_ | refine Br.n1 ?_); conv => whnf)
       refine hp.loadA (l := C2 ((c * 10 + d) % w64) ((c * 10 + d) / w64)) .d rfl (by rfl) rfl rfl ?_
       conv => whnf
       refine hp.storeW (vs := C2 ((c * 10 + d) % w64) ((c * 10 + d) / w64)) rfl .d csx rfl rfl rfl ?_
       clear hp
       intro s hp _
       conv => whnf
       rw [← hc'] at hp
       refine Sm.ofW ?_
       conv => whnf
       exact ⟨(i + 1, c', false), by (show Y.length - (i + 1) < Y.length - i); omega, subK_ok (by refine ⟨rfl, rfl, rfl, rfl, rfl, rfl, rfl, congrArg (fun x => some (Value.int .i64 x)) ei, trivial⟩), (by (show i + 1 ≤ Y.length); omega), ok2, hp.pik (by repeat (first | exact Pik.nil | exact Pik.refl _ | exact Rm.here | apply Rm.there | apply Pik.cons | apply Pik.skip))⟩
   · have hc : ¬ i < Y.length := by have h : ¬ (i : Int) < (Y.length : Int) := of_decide_eq_false hc; omega
     obtain rfl : i = Y.length := by omega
     have hov := ok.ov
     have hv := ok.val
     rw [List.take_length] at hov hv
     have c30 := ok.c30
     have cw : c < w128 := Nat.lt_trans c30 (by decide)
     conv => whnf
     refine Sm.seq ?_
     refine Sm.block ?_
     refine Sm.seqW ?_
     conv => whnf
     refine Sm.ofW ?_
     conv => whnf
     cases hovc : ov with
     | true =>
       rw [hovc] at hov
       rw [if_pos (of_decide_eq_true hov.symm)] at hread
       repeat ((first | refine Br.y1 ?_ | refine Br.n1 ?_); conv => whnf)
       refine hp.storeW (vs := Dc.zero.cells) rfl .d csx rfl rfl rfl ?_
       clear hp
       intro s hp _
       conv => whnf
       refine hp.loadA (l := Dc.zero.cells) .d rfl (by rfl) rfl rfl ?_
       conv => whnf
       refine ⟨hp.fr, ?_⟩
       rw [hread]; rfl
     | false =>
       rw [hovc] at hov
       rw [if_neg (of_decide_eq_false hov.symm)] at hread
       have hv := hv hovc
       rw [← hv] at hread
       cases ng with
       | false =>
         repeat ((first | refine Br.y1 ?_ | refine Br.n1 ?_); conv => whnf)
         refine Sm.seqW ?_
         conv => whnf
         refine hp.loadA (l := C2 (c % w64) (c / w64)) .d rfl (by rfl) rfl rfl ?_
         conv => whnf
         refine hp.storeW (vs := (Dc.mk false c (R.length : Int)).cells) rfl .d csx rfl rfl rfl ?_
         clear hp
         intro s hp _
         conv => whnf
         refine Sm.ofW ?_
         conv => whnf
         refine hp.loadA (l := (Dc.mk false c (R.length : Int)).cells) .d rfl (by rfl) rfl rfl ?_
         conv => whnf
         refine ⟨hp.fr, ?_⟩
         rw [hread]; rfl
       | true =>
         repeat ((first | refine Br.y1 ?_ | refine Br.n1 ?_); conv => whnf)
         refine hp.loadA (l := C2 (c % w64) (c / w64)) .d rfl (by rfl) rfl rfl ?_
         conv => whnf
         repeat ((first | refine Br.y1 ?_ | refine Br.n1 ?_); conv => whnf)
         refine hp.call (nought_spec hp.wf c) ?_
         clear hp
         rintro _ s rfl hp _
         conv => whnf
         by_cases h0 : c = 0
         · rw [decide_eq_true h0]
           repeat ((first | refine Br.y1 ?_ | refine Br.n1 ?_); conv => whnf)
           refine hp.storeW (vs := Dc.zero.cells) rfl .d csx rfl rfl rfl ?_
           clear hp
           intro s hp _
           conv => whnf
           refine hp.loadA (l := Dc.zero.cells) .d rfl (by rfl) rfl rfl ?_
           conv => whnf
           refine ⟨hp.fr, ?_⟩
           rw [hread, decide_eq_true h0]; rfl
         · rw [decide_eq_false h0]
           repeat ((first | refine Br.y1 ?_ | refine Br.n1 ?_); conv => whnf)
           refine Sm.seqW ?_
           conv => whnf
           refine hp.loadA (l := C2 (c % w64) (c / w64)) .d rfl (by rfl) rfl rfl ?_
           conv => whnf
           refine hp.storeW (vs := (Dc.mk true c (R.length : Int)).cells) rfl .d csx rfl rfl rfl ?_
           clear hp
           intro s hp _
           conv => whnf
           refine Sm.ofW ?_
           conv => whnf
           refine hp.loadA (l := (Dc.mk true c (R.length : Int)).cells) .d rfl (by rfl) rfl rfl ?_
           conv => whnf
           refine ⟨hp.fr, ?_⟩
           rw [hread, decide_eq_false h0]; rfl
end

/- limb.Bits; pieces of an array. No condition. -/
section
variable [Lk]
theorem bits_spec {z : St} (wf : WF z) {n : Nat} (hn : n < w256) : Cw Tryz.prog 105 [W4 n] z fun r s' => K0 z s' ∧ ∃ k : Nat, r = .int .i64 (k : Int) ∧ (k = 0 ↔ n = 0) := by
 have hp : Hp (fun _ => False) z [] [] z := Hp.start _ wf _ (by simp)
 refine Cw.enterS Tryz.func105 rfl rfl ?_
 refine Sm.seqW ?_
 conv => whnf
 refine hp.var (cs := natU (ws n)) (e := 1) (w4_ws hn) rfl ?_
 clear hp
 intro p1 s hp _
 conv => whnf
 refine Sm.live [1] ?_
 conv => whnf
 refine Sm.seq ?_
 refine Sm.seqW ?_
 conv => whnf
 refine Sm.block ?_
 refine Sm.loop ?_
 refine Lp.ofS (α := Nat) (fun k => [(1, .pointer (some ⟨p1, 0, none⟩)), (3, .int .i64 ((k : Int) - 1))])
  (fun k s' => k ≤ 256 ∧ n < 2 ^ k ∧ Hp (fun _ => False) z [] [blkA p1 p1 (natU (ws n)) 1] s') (fun k => k) ?_ 256 (subK_ok (by refine ⟨rfl, rfl, trivial⟩)) ⟨Nat.le_refl _, hn, hp⟩
 clear hp
 rintro k s ⟨hk, hE, hp⟩
 cases k with
 | zero =>
   refine Sm.seq ?_
   refine Sm.seqW ?_
   conv => whnf
   refine Sm.ofW ?_
   conv => whnf
   refine Br.no (rfl) ?_
   conv => whnf
   refine Sm.seqW ?_
   conv => whnf
   refine Sm.ofW ?_
   conv => whnf
   exact ⟨hp.fr, 0, rfl, by simp at hE ⊢; exact hE⟩
 | succ i =>
   have hk0 : decide ((i : Int) ≥ 0) = true := decide_eq_true (by omega)
   refine Sm.weak [(1, .pointer (some ⟨p1, 0, none⟩)), (3, .int .i64 (i : Int))] (subK_ok ⟨rfl, congrArg (fun x => some (Value.int .i64 x)) (show ((i + 1 : Nat) : Int) - 1 = (i : Int) by push_cast; omega), trivial⟩) ?_
   refine Sm.seq ?_
   refine Sm.seqW ?_
   conv => whnf
   refine Sm.ofW ?_
   conv => whnf
   refine Br.yes (hk0) ?_
   conv => whnf
   refine Sm.seq ?_
   refine Sm.block ?_
   refine Sm.seqW ?_
   conv => whnf
   refine Om.of _ (quo_nat (n := i) (m := 64) (by decide) (by omega)) ?_
   conv => whnf
   refine Om.of _ (ixA Tryz.underlying102 (by rfl) rfl .i64 (i := i / 64) (by omega)) ?_
   conv => whnf
   refine hp.load .d (show (natU (ws n))[0 + i / 64]? = some (.int .u64 ((wd n (i / 64) : Nat) : Int)) by rw [Nat.zero_add]; exact wd_get n (i / 64) (by omega)) rfl rfl rfl ?_
   conv => whnf
   refine Om.of _ (rem_nat (n := i) (m := 64) (by decide)) ?_
   conv => whnf
   refine Om.of _ (shr_u64 _ (i % 64) (by omega)) ?_
   conv => whnf
   have e8 : IntKind.u64.wrap ((BitVec.ofInt IntKind.u64.bits ((wd n (i / 64) / 2 ^ (i % 64) : Nat) : Int) &&& BitVec.ofInt IntKind.u64.bits 1).toNat : Int) = ((n / 2 ^ i % 2 : Nat) : Int) := by
    have hx : wd n (i / 64) / 2 ^ (i % 64) < w64 := Nat.lt_of_le_of_lt (Nat.div_le_self _ _) (wd_lt _ _)
    have ha1 := and_u64 (b := 1) hx (by decide)
    rw [Nat.and_one_is_mod, wd_bit n i] at ha1
    rw [show (BitVec.ofInt IntKind.u64.bits 1) = BitVec.ofInt IntKind.u64.bits ((1 : Nat) : Int) from rfl, ha1]
   refine Sm.ofW ?_
   conv => whnf
   have h2 : 2 ^ (i + 1) = 2 * 2 ^ i := by rw [Nat.pow_succ, Nat.mul_comm]
   have hdm := Nat.div_add_mod n (2 ^ i)
   by_cases hb : n / 2 ^ i % 2 = 0
   · have hd : decide (IntKind.u64.wrap ((BitVec.ofInt IntKind.u64.bits ((wd n (i / 64) / 2 ^ (i % 64) : Nat) : Int) &&& BitVec.ofInt IntKind.u64.bits 1).toNat : Int) > 0) = false := by
      rw [e8, hb]; rfl
     refine Br.no (hd) ?_
     conv => whnf
     refine Sm.ofW ?_
     conv => whnf
     have hz : n / 2 ^ i = 0 := by
      have : n / 2 ^ i < 2 := (Nat.div_lt_iff_lt_mul (Nat.pow_pos (by decide))).2 (by rw [← h2]; exact hE)
      clear hdm h2 hE
      generalize n / 2 ^ i = q at this hb ⊢
      omega
     have ei : IntKind.i64.wrap ((i : Int) - 1) = (i : Int) - 1 := wi64 (by omega) (by omega)
     refine ⟨i, Nat.lt_succ_self i, subK_ok (by refine ⟨rfl, congrArg (fun x => some (Value.int .i64 x)) ei, trivial⟩), by omega, ?_, hp⟩
     rw [hz, Nat.mul_zero, Nat.zero_add] at hdm
     rw [← hdm]; exact Nat.mod_lt _ (Nat.pow_pos (by decide))
   · have hd : decide (IntKind.u64.wrap ((BitVec.ofInt IntKind.u64.bits ((wd n (i / 64) / 2 ^ (i % 64) : Nat) : Int) &&& BitVec.ofInt IntKind.u64.bits 1).toNat : Int) > 0) = true := by
      rw [e8]; exact decide_eq_true (by omega)
     refine Br.yes (hd) ?_
     conv => whnf
     have ei : IntKind.i64.wrap ((i : Int) + 1) = ((i + 1 : Nat) : Int) := by rw [wi64 (by omega) (by omega)]; push_cast; rfl
     refine ⟨hp.fr, i + 1, congrArg (Value.int .i64) ei, ?_⟩
     refine ⟨fun h => by omega, fun h => ?_⟩
     rw [h, Nat.zero_div] at hb
     exact absurd rfl hb
theorem slice_arr {P : Program} {t n e : Nat} (hu : P.underlying t = some (.array n e)) {j : TypeInfo} (hin : P.info? e = some j) (hj : j.size = 1) {s : St} {k b : Nat} {l : List UInt8} (hb : Blk s k b (byteVals l) 1) (hn : l.length = n) (hn0 : 0 < n)
  {lo hi : Option Nat} (h1 : lo.getD 0 ≤ hi.getD n) (h2 : hi.getD n ≤ n) :
  ∃ v, evSliceMem P t (.pointer (some ⟨b, 0, none⟩)) (bndV .i64 lo) (bndV .i64 hi) none s = some v ∧ Sb s (some k) v ((l.drop (lo.getD 0)).take (hi.getD n - lo.getD 0)) := by
 have hbd : bnds n n (bndV .i64 lo) (bndV .i64 hi) none = some (lo.getD 0, hi.getD n, n) := by
  unfold bnds
  cases lo <;> cases hi <;> simp only [bndV, Option.getD_none, Option.getD_some] at h1 h2 ⊢
  · rw [bnd_nat h2]
  · rw [bnd_nat h1]
  · rw [bnd_nat h2]; simp only; rw [bnd_nat h1]
 refine ⟨.slice (some ⟨b, lo.getD 0, none⟩) (hi.getD n - lo.getD 0) (n - lo.getD 0), ?_, ?_⟩
 · obtain ⟨base, fl, g1, g2, g3⟩ := hb.ex
   have e1 := hb.esz
   have e2 := hb.rd
   unfold evSliceMem
   rw [hu]
   simp only [hin, e1, e2, hj, Nat.beq_refl, Nat.mul_one, blt_of hn0, byteVals_length, Nat.zero_add, hn, Nat.ble_eq_true_of_le (Nat.le_refl n), g1, hbd]
 · have hlen : ((l.drop (lo.getD 0)).take (hi.getD n - lo.getD 0)).length = hi.getD n - lo.getD 0 := by simp; omega
   have hv : byteVals ((l.drop (lo.getD 0)).take (hi.getD n - lo.getD 0)) = ((byteVals l).drop (lo.getD 0)).take (hi.getD n - lo.getD 0) := by simp [byteVals, List.map_take, List.map_drop]
   refine ⟨.inr ⟨b, lo.getD 0, n - lo.getD 0, byteVals l, by rw [hlen], by rw [hlen]; omega, by rw [byteVals_length, Nat.mul_one], ?_, .inl ⟨k, rfl, hb⟩⟩⟩
   rw [hv, hlen, Nat.mul_one]
   unfold sl
   simp only
   have : (((byteVals l).drop (lo.getD 0)).take (hi.getD n - lo.getD 0)).length = hi.getD n - lo.getD 0 := by rw [← hv, byteVals_length, hlen]
   rw [this, Nat.beq_refl]
end

/- dec.Print walked. No condition. -/
section
variable [Lk]
def dch (c k : Nat) : UInt8 := UInt8.ofNat (48 + c / 10 ^ k % 10)
def pl (c n : Nat) : List UInt8 := (List.range n).map (dch c)
theorem pl_succ (c n : Nat) : pl c (n + 1) = pl c n ++ [dch c n] := by simp [pl, List.range_succ]
theorem pl_len (c n : Nat) : (pl c n).length = n := by simp [pl]
def np (c sc : Nat) : Nat := max (sc + 1) (dg c).length
theorem dg_more {c i : Nat} : i < (dg c).length ↔ 0 < c / 10 ^ i := by
 have h := (dg_dl c).small i
 rw [Vd_dg] at h
 have hp := p10 i
 constructor
 · intro g
   have : ¬ c < 10 ^ i := fun k => by have := h.1 k; omega
   exact Nat.div_pos (by omega) hp
 · intro g
   rcases Nat.lt_or_ge i (dg c).length with k | k
   · exact k
   · have := h.2 k
     rw [Nat.div_eq_of_lt this] at g; exact absurd g (by decide)
theorem np_more {c sc i : Nat} : i < np c sc ↔ i ≤ sc ∨ 0 < c / 10 ^ i := by
 unfold np
 rw [← dg_more]; omega
theorem np_le {c sc : Nat} (hc : c < 10 ^ 30) (hs : sc ≤ 9) : np c sc ≤ 30 := by
 have := dg_len 30 c hc
 unfold np; omega
def printF (d : Dc) : List UInt8 :=
 if d.right = false then [] else
 (if d.neg = true then [45] else []) ++ ((pl d.c (np d.c d.scale.toNat)).reverse.take (np d.c d.scale.toNat - d.scale.toNat) ++
  (if 0 < d.scale then [46] ++ (pl d.c (np d.c d.scale.toNat)).reverse.drop (np d.c d.scale.toNat - d.scale.toNat) else []))
theorem lDiv_ten {z : St} (wf : WF z) {a : Nat} (ha : a < w256) : Cw Tryz.prog 106 [W4 a, W2 10] z fun r s' => K0 z s' ∧ r = .tuple #[W4 (a / 10), W2 (a % 10), .bool true] :=
 lDiv_spec wf ha (by decide) (by decide)
def fieldL (c i : Nat) : List UInt8 := List.replicate (31 - i) 0 ++ (pl c i).reverse
theorem fieldL_len {c i : Nat} (h : i ≤ 31) : (fieldL c i).length = 31 := by simp [fieldL, pl_len]; omega
theorem fieldL_set {c i : Nat} (h : i < 31) : (fieldL c i).set (30 - i) (dch c i) = fieldL c (i + 1) := by
 unfold fieldL
 rw [pl_succ, List.reverse_append, show 31 - i = (30 - i) + 1 by omega, List.replicate_succ', List.append_assoc, show 31 - (i + 1) = 30 - i by omega]
 rw [List.set_append_right _ _ (by simp)]
 simp
theorem figs_dch : ∀ j, (h : j < 10) → figs[j]'h = UInt8.ofNat (48 + j) := by decide +kernel
theorem field_whole {c n k : Nat} (hn : n ≤ 31) (hk : k ≤ n) : ((fieldL c n).drop (31 - n)).take (31 - k - (31 - n)) = (pl c n).reverse.take (n - k) := by
 unfold fieldL
 rw [List.drop_left' (by simp), show 31 - k - (31 - n) = n - k by omega]
theorem field_rest {c n k : Nat} (hn : n ≤ 31) (hk : k ≤ n) : ((fieldL c n).drop (31 - k)).take (31 - (31 - k)) = (pl c n).reverse.drop (n - k) := by
 have h1 : (fieldL c n).drop (31 - k) = (pl c n).reverse.drop (n - k) := by
  unfold fieldL
  rw [List.drop_append, List.drop_eq_nil_of_le (by simp; omega), List.nil_append, List.length_replicate, show 31 - k - (31 - n) = n - k by omega]
 rw [h1, List.take_of_length_le (by simp [pl_len]; omega)]
theorem print_spec {z : St} (wf : WF z) (d : Dc) (hd : d.c < w128) : Cw Tryz.prog 61 [d.val] z fun r s' => K0 z s' ∧ r = sv (printF d) := by
 have hp : Hp (fun _ => False) z [] [] z := Hp.start _ wf _ (by simp)
 refine Cw.enterS Tryz.func61 rfl rfl ?_
 refine Sm.seqW ?_
 conv => whnf
 refine hp.var (cs := d.cells) (e := 4) rfl rfl ?_
 clear hp
 intro p1 s hp _
 conv => whnf
 refine Sm.live [1] ?_
 conv => whnf
 refine Sm.seq ?_
 refine Sm.seqW ?_
 conv => whnf
 refine hp.loadA (l := d.cells) .d rfl (by rfl) rfl rfl ?_
 conv => whnf
 refine hp.call (right_spec hp.wf d hd) ?_
 clear hp
 rintro _ s rfl hp _
 conv => whnf
 unfold printF
 cases hr : d.right with
 | false =>
   rw [if_pos rfl]
   repeat ((first | refine Br.y1 ?_ | refine Br.n1 ?_); conv => whnf)
   refine Sm.ofW ?_
   conv => whnf
   repeat ((first | refine Br.y1 ?_ | refine Br.n1 ?_); conv => whnf)
   exact ⟨hp.fr, rfl⟩
 | true =>
   rw [if_neg (by decide)]
   obtain ⟨a1, a2, a3⟩ := Dc.right_c hr
   obtain ⟨ng, c, sc⟩ := d
   simp only at hd a1 a2 a3 ⊢
   obtain ⟨k, rfl⟩ : ∃ k : Nat, sc = k := ⟨sc.toNat, by omega⟩
   rw [Int.toNat_natCast]
   have hnp := np_le a1 (show k ≤ 9 by omega)
   have hmore : ∀ i, i < np c k ↔ i ≤ k ∨ 0 < c / 10 ^ i := fun i => np_more
   generalize np c k = n at *
   refine Sm.ofW ?_
   conv => whnf
   repeat ((first | refine Br.y1 ?_ | refine Br.n1 ?_); conv => whnf)
   refine Sm.seqW ?_
   conv => whnf
   refine hp.alloc (cs := byteVals (fieldL c 0)) (e := 1) rfl rfl rfl (by kernel_rfl) rfl ?_
   clear hp
   intro p3 s hp _
   conv => whnf
   refine Sm.live [1, 3] ?_
   conv => whnf
   refine Sm.seqW ?_
   conv => whnf
   refine hp.loadA (l := C2 (c % w64) (c / w64)) .d rfl (by rfl) rfl rfl ?_
   conv => whnf
   refine hp.call (lWide_spec hp.wf hd) ?_
   clear hp
   rintro _ s rfl hp _
   conv => whnf
   refine hp.alloc (cs := C4 0 0 0 0) (e := 1) rfl rfl rfl rfl rfl ?_
   clear hp
   intro p5 s hp _
   conv => whnf
   refine hp.storeW (vs := C4 (c % w64) (c / w64 % w64) (c / w128 % w64) (c / w192)) rfl .d csx rfl rfl rfl ?_
   clear hp
   intro s hp _
   conv => whnf
   refine Sm.live [1, 3, 4, 5] ?_
   conv => whnf
   refine Sm.seq ?_
   refine Sm.block ?_
   refine Sm.loop ?_
   refine Lp.ofS (α := Nat) (fun i => [(1, .pointer (some ⟨p1, 0, none⟩)), (3, .pointer (some ⟨p3, 0, none⟩)), (4, .int .i64 ((31 - i : Nat) : Int)), (5, .pointer (some ⟨p5, 0, none⟩))])
    (fun i s' => i ≤ n ∧ Hp (fun _ => False) z [] [blkA p5 p5 (C4 (c / 10 ^ i % w64) (c / 10 ^ i / w64 % w64) (c / 10 ^ i / w128 % w64) (c / 10 ^ i / w192)) 1, blkA p3 p3 (byteVals (fieldL c i)) 1, blkA p1 p1 (Dc.mk ng c (k : Int)).cells 4] s') (fun i => n - i) ?_ 0 (subK_ok (by refine ⟨rfl, rfl, rfl, rfl, trivial⟩)) ⟨Nat.zero_le _, by rw [Nat.pow_zero, Nat.div_one]; exact hp.pik (by repeat (first | exact Pik.nil | exact Pik.refl _ | exact Rm.here | apply Rm.there | apply Pik.cons | apply Pik.skip))⟩
   clear hp
   rintro i s ⟨hi, hp⟩
   obtain ⟨v, hv⟩ : ∃ v, v = c / 10 ^ i := ⟨_, rfl⟩
   have hvw : v < w128 := Nat.lt_of_le_of_lt (hv ▸ Nat.div_le_self _ _) hd
   have hvw2 : v < w256 := Nat.lt_trans hvw (by decide)
   rw [← hv] at hp
   have hm := hmore i
   rw [← hv] at hm
   refine Sm.seq ?_
   refine Sm.seqC (fun e L' s' => e = .normal ∧ Hp (fun _ => False) z [] [blkA p5 p5 (C4 (v % w64) (v / w64 % w64) (v / w128 % w64) (v / w192)) 1, blkA p3 p3 (byteVals (fieldL c i)) 1, blkA p1 p1 (Dc.mk ng c (k : Int)).cells 4] s' ∧ Sub [(1, .pointer (some ⟨p1, 0, none⟩)), (3, .pointer (some ⟨p3, 0, none⟩)), (4, .int .i64 ((31 - i : Nat) : Int)), (5, .pointer (some ⟨p5, 0, none⟩)), (30, .bool (decide (i < n)))] L') ?_ ?_
   · conv => whnf
     have ew : IntKind.i64.wrap (31 - ((31 - i : Nat) : Int)) = (i : Int) := by rw [wi64 (by omega) (by omega)]; omega
     by_cases h0 : i = 0
     · have hq : (((31 - i : Nat) : Int) == 31) = true := beq_iff_eq.2 (by omega)
       repeat (first | (refine Br.yes hq ?_; conv => whnf) | ((first | refine Br.y1 ?_ | refine Br.n1 ?_); conv => whnf))
       have : decide (i < n) = true := decide_eq_true (hm.2 (.inl (by omega)))
       rw [this]
       exact ⟨rfl, hp, subK_ok ⟨rfl, rfl, rfl, rfl, rfl, trivial⟩⟩
     have hq : (((31 - i : Nat) : Int) == 31) = false := beq_eq_false_iff_ne.2 (by omega)
     repeat (first | (refine Br.no hq ?_; conv => whnf) | ((first | refine Br.y1 ?_ | refine Br.n1 ?_); conv => whnf))
     refine hp.load (v := .int .i64 (k : Int)) .d (by rfl) rfl rfl rfl ?_
     conv => whnf
     repeat (first | (refine Br.no hq ?_; conv => whnf) | ((first | refine Br.y1 ?_ | refine Br.n1 ?_); conv => whnf))
     rw [ew]
     by_cases h1 : i ≤ k
     · have hq1 : decide ((i : Int) ≤ (k : Int)) = true := decide_eq_true (by omega)
       repeat (first | (refine Br.yes hq1 ?_; conv => whnf) | (refine Br.no hq ?_; conv => whnf) | ((first | refine Br.y1 ?_ | refine Br.n1 ?_); conv => whnf))
       have : decide (i < n) = true := decide_eq_true (hm.2 (.inl h1))
       rw [this]
       exact ⟨rfl, hp, subK_ok ⟨rfl, rfl, rfl, rfl, rfl, trivial⟩⟩
     have hq1 : decide ((i : Int) ≤ (k : Int)) = false := decide_eq_false (by omega)
     repeat (first | (refine Br.no hq1 ?_; conv => whnf) | (refine Br.no hq ?_; conv => whnf) | ((first | refine Br.y1 ?_ | refine Br.n1 ?_); conv => whnf))
     refine hp.loadA (l := C4 (v % w64) (v / w64 % w64) (v / w128 % w64) (v / w192)) .d rfl (by rfl) rfl rfl ?_
     conv => whnf
     repeat (first | (refine Br.no hq1 ?_; conv => whnf) | (refine Br.no hq ?_; conv => whnf) | ((first | refine Br.y1 ?_ | refine Br.n1 ?_); conv => whnf))
     refine hp.call (bits_spec hp.wf hvw2) ?_
     clear hp
     rintro _ s ⟨kb, rfl, hkb⟩ hp _
     conv => whnf
     repeat (first | (refine Br.no hq1 ?_; conv => whnf) | (refine Br.no hq ?_; conv => whnf) | ((first | refine Br.y1 ?_ | refine Br.n1 ?_); conv => whnf))
     have : decide (i < n) = decide ((kb : Int) > 0) := decide_eq_decide.2 (by rw [hm]; omega)
     rw [this]
     exact ⟨rfl, hp, subK_ok ⟨rfl, rfl, rfl, rfl, rfl, trivial⟩⟩
   clear hp
   rintro e L' s ⟨rfl, hp, hs⟩
   refine Sm.weak _ hs ?_
   clear hs
   refine Sm.ofW ?_
   conv => whnf
   refine Br.mk (fun hc => ?_) (fun hc => ?_)
   · have hc : i < n := of_decide_eq_true hc
     conv => whnf
     refine Sm.block ?_
     refine Sm.seqW ?_
     conv => whnf
     refine ⟨[0, 0, 3, 7, 15, 15, 15, 0, 0, 415, 959, 2047], by decide +kernel, by decide +kernel, ?_⟩
     conv => whnf
     refine hp.loadA (l := C4 (v % w64) (v / w64 % w64) (v / w128 % w64) (v / w192)) .d rfl (by rfl) rfl rfl ?_
     conv => whnf
     refine hp.rst.call (lOf_spec hp.rst.wf (a := 10) (by decide)) ?_
     rintro _ s1 rfl h1 k1
     conv => whnf
     refine hp.dkN h1 k1 ?_
     clear hp h1 k1
     intro s hp
     conv => whnf
     refine hp.rst.call (lDiv_ten hp.rst.wf hvw2) ?_
     rintro _ s1 rfl h1 k1
     conv => whnf
     refine hp.dkN h1 k1 ?_
     clear hp h1 k1
     intro s hp
     conv => whnf
     refine hp.rst.alloc (cs := C4 0 0 0 0) (e := 1) rfl rfl rfl rfl rfl ?_
     intro p6 s1 h1 k1
     conv => whnf
     refine hp.dkN h1 k1 ?_
     clear hp h1 k1
     intro s hp
     conv => whnf
     refine hp.rst.alloc (cs := C2 0 0) (e := 1) rfl rfl rfl rfl rfl ?_
     intro p7 s1 h1 k1
     conv => whnf
     refine hp.dkN h1 k1 ?_
     clear hp h1 k1
     intro s hp
     conv => whnf
     refine hp.rst.storeW (vs := C4 (v / 10 % w64) (v / 10 / w64 % w64) (v / 10 / w128 % w64) (v / 10 / w192)) rfl .d csx rfl rfl rfl ?_
     intro s1 h1 l1
     conv => whnf
     refine hp.dkW h1 l1 ?_
     clear hp h1 l1
     intro s hp
     conv => whnf
     refine hp.rst.storeW (vs := C2 (v % 10 % w64) (v % 10 / w64)) rfl .d csx rfl rfl rfl ?_
     intro s1 h1 l1
     conv => whnf
     refine hp.dkW h1 l1 ?_
     clear hp h1 l1
     intro s hp
     conv => whnf
     refine Sm.live [1, 3, 4, 5, 6, 7] ?_
     conv => whnf
     refine Sm.seqW ?_
     conv => whnf
     have e30 : IntKind.i64.wrap (((31 - i : Nat) : Int) - 1) = ((30 - i : Nat) : Int) := by rw [wi64 (by omega) (by omega)]; omega
     rw [e30]
     refine Sm.live [1, 3, 4, 5, 6, 7] ?_
     conv => whnf
     refine Sm.ofW ?_
     conv => whnf
     refine ⟨[0, 0, 2, 6, 0, 15, 47, 127], by decide +kernel, by decide +kernel, ?_⟩
     conv => whnf
     refine Om.of _ (rfl) ?_
     conv => whnf
     refine hp.load (v := .int .u64 ((v % 10 % w64 : Nat) : Int)) .d (by rfl) rfl rfl rfl ?_
     conv => whnf
     have h10 : v % 10 % w64 < 10 := by simp only [w64]; omega
     refine Om.of _ (str_index Tryz.underlying9 (l := figs) (i := v % 10 % w64) h10 .u64) ?_
     conv => whnf
     have hdc : figs[v % 10 % w64]'h10 = dch c i := by
      rw [figs_dch _ h10]
      unfold dch
      rw [← hv]
      congr 2
      simp only [w64]; omega
     rw [hdc]
     refine hp.loadA (l := C4 (v / 10 % w64) (v / 10 / w64 % w64) (v / 10 / w128 % w64) (v / 10 / w192)) .d rfl (by rfl) rfl rfl ?_
     conv => whnf
     refine Om.of _ (ixA Tryz.underlying151 (by rfl) rfl .i64 (i := 30 - i) (by omega)) ?_
     conv => whnf
     have hp0 := hp
     refine hp.rst.store .d (by rw [byteVals_length, fieldL_len (by omega)]; omega) rfl rfl rfl rfl ?_
     intro s1 h1 l1
     conv => whnf
     refine hp.dkW h1 l1 ?_
     clear hp h1 l1
     intro s hp
     conv => whnf
     refine ⟨hp0.sa hp .d .d, ?_⟩
     clear hp0
     have hset : (byteVals (fieldL c i)).set (0 + (30 - i)) (.int .u8 ((dch c i).toNat : Int)) = byteVals (fieldL c (i + 1)) := by
      rw [Nat.zero_add, ← fieldL_set (by omega)]
      simp [byteVals, List.map_set]
     rw [hset] at hp
     conv => whnf
     refine hp.rst.storeW (vs := C4 (v / 10 % w64) (v / 10 / w64 % w64) (v / 10 / w128 % w64) (v / 10 / w192)) rfl .d csx rfl rfl rfl ?_
     intro s1 h1 l1
     conv => whnf
     refine hp.dkW h1 l1 ?_
     clear hp h1 l1
     intro s hp
     conv => whnf
     have hv1 : v / 10 = c / 10 ^ (i + 1) := by rw [hv, Nat.div_div_eq_div_mul, Nat.pow_succ]
     rw [hv1] at hp
     exact ⟨i + 1, by (show n - (i + 1) < n - i); omega, subK_ok (by refine ⟨rfl, rfl, congrArg (fun x => some (Value.int .i64 x)) (show ((30 - i : Nat) : Int) = ((31 - (i + 1) : Nat) : Int) by omega), rfl, trivial⟩), by omega, hp.pik (by repeat (first | exact Pik.nil | exact Pik.refl _ | exact Rm.here | apply Rm.there | apply Pik.cons | apply Pik.skip))⟩
   · have hc : ¬ i < n := of_decide_eq_false hc
     obtain rfl : i = n := by omega
     have hkn : k < i := by
      rcases Nat.lt_or_ge k i with g | g
      · exact g
      · exact absurd (hm.2 (.inl g)) (by omega)
     have hlen : (fieldL c i).length = 31 := fieldL_len (by omega)
     have e31 : IntKind.i64.wrap (31 - (k : Int)) = ((31 - k : Nat) : Int) := by rw [wi64 (by omega) (by omega)]; omega
     conv => whnf
     refine Sm.seqW ?_
     conv => whnf
     refine ⟨[0, 0, 2, 6, 15, 31, 0, 64, 192, 448, 960, 63, 4095], by decide +kernel, by decide +kernel, ?_⟩
     conv => whnf
     refine hp.load (v := .int .i64 (k : Int)) .d (by rfl) rfl rfl rfl ?_
     conv => whnf
     rw [e31]
     obtain ⟨v1, q1, b1⟩ := slice_arr (P := Tryz.prog) Tryz.underlying151 (by rfl) rfl (hp.rst.blk (k := p3) (b := p3) .d) hlen (by decide) (lo := some (31 - i)) (hi := some (31 - k)) (by simp only [Option.getD_some]; omega) (by simp only [Option.getD_some]; omega)
     simp only [Option.getD_some] at b1
     rw [field_whole (by omega) (by omega)] at b1
     refine Om.of _ (q1) ?_
     conv => whnf
     refine hp.dkS ?_
     conv => whnf
     refine Om.of _ (string_sl Tryz.underlying59 Tryz.underlying9 Tryz.underlying5 b1) ?_
     conv => whnf
     refine hp.dkS ?_
     conv => whnf
     clear q1 b1
     refine hp.load (v := .int .i64 (k : Int)) .d (by rfl) rfl rfl rfl ?_
     conv => whnf
     rw [e31]
     obtain ⟨v2, q2, b2⟩ := slice_arr (P := Tryz.prog) Tryz.underlying151 (by rfl) rfl (hp.rst.blk (k := p3) (b := p3) .d) hlen (by decide) (lo := some (31 - k)) (hi := none) (by simp only [Option.getD_some, Option.getD_none]; omega) (by simp only [Option.getD_none]; omega)
     simp only [Option.getD_some, Option.getD_none] at b2
     rw [field_rest (by omega) (by omega)] at b2
     refine Om.of _ (q2) ?_
     conv => whnf
     refine hp.dkS ?_
     conv => whnf
     refine Om.of _ (string_sl Tryz.underlying59 Tryz.underlying9 Tryz.underlying5 b2) ?_
     conv => whnf
     refine hp.dkS ?_
     conv => whnf
     clear q2 b2
     refine Sm.live [1, 9, 10] ?_
     conv => whnf
     have hwl : ((pl c i).reverse.take (i - k)).length ≤ 31 := by simp [pl_len]; omega
     have hrl : ((pl c i).reverse.drop (i - k)).length ≤ 31 := by simp [pl_len]; omega
     generalize (pl c i).reverse.take (i - k) = WH at *
     generalize (pl c i).reverse.drop (i - k) = RS at *
     refine Sm.seqC (fun e L' s' => e = .normal ∧ s' = s ∧ Sub [(1, .pointer (some ⟨p1, 0, none⟩)), (9, sv ((if ng = true then [45] else []) ++ WH)), (10, sv RS)] L') ?_ ?_
     · conv => whnf
       refine hp.load (v := .bool ng) .d (by rfl) rfl rfl rfl ?_
       conv => whnf
       cases ng with
       | false =>
         repeat ((first | refine Br.y1 ?_ | refine Br.n1 ?_); conv => whnf)
         exact ⟨rfl, rfl, subK_ok ⟨rfl, rfl, rfl, trivial⟩⟩
       | true =>
         repeat ((first | refine Br.y1 ?_ | refine Br.n1 ?_); conv => whnf)
         refine Om.of _ (str_add ⟨#[45]⟩ ⟨WH.toArray⟩ (by show 1 + WH.length ≤ _; omega)) ?_
         conv => whnf
         exact ⟨rfl, rfl, subK_ok ⟨rfl, rfl, rfl, trivial⟩⟩
     rintro e L' s' ⟨rfl, rfl, hs⟩
     refine Sm.weak _ hs ?_
     clear hs
     have hnl : ((if ng = true then [45] else []) ++ WH : List UInt8).length ≤ 32 := by cases ng <;> simp <;> omega
     rw [← List.append_assoc]
     generalize ((if ng = true then [45] else []) ++ WH : List UInt8) = NW at *
     refine Sm.seq ?_
     refine Sm.seqW ?_
     conv => whnf
     refine hp.load (v := .int .i64 (k : Int)) .d (by rfl) rfl rfl rfl ?_
     conv => whnf
     refine Sm.ofW ?_
     conv => whnf
     by_cases hk : 0 < (k : Int)
     · rw [if_pos hk]
       refine Br.yes (decide_eq_true hk) ?_
       conv => whnf
       refine Om.of _ (str_add ⟨NW.toArray⟩ ⟨#[46]⟩ (by show NW.length + 1 ≤ _; omega)) ?_
       conv => whnf
       refine Om.of _ (str_add ⟨(bs ⟨NW.toArray⟩ ++ bs ⟨#[46]⟩).toArray⟩ ⟨RS.toArray⟩ (by show (NW ++ [46]).length + RS.length ≤ _; simp; omega)) ?_
       conv => whnf
       refine ⟨hp.fr, ?_⟩
       show sv ((NW ++ [46]) ++ RS) = sv (NW ++ ([46] ++ RS))
       rw [List.append_assoc]
     · rw [if_neg hk, List.append_nil]
       refine Br.no (decide_eq_false hk) ?_
       conv => whnf
       refine Sm.seqW ?_
       conv => whnf
       refine Sm.ofW ?_
       conv => whnf
       exact ⟨hp.fr, rfl⟩
end

/- Chapter 2's example; the order of decimals at one scale. No condition. -/
section
variable [Lk]
end

/- What is printed of a decimal with more places. No condition. -/
section
variable [Lk]
theorem np_ge (c S : Nat) : S < np c S := by unfold np; omega
end

/- What is printed is read the same. No condition. -/
section
variable [Lk]
theorem print_len {d : Dc} (h : d.right = true) : (printF d).length ≤ 32 := by
 obtain ⟨a1, a2, a3⟩ := Dc.right_c h
 have hn := np_le a1 (show d.scale.toNat ≤ 9 by omega)
 unfold printF
 rw [h, if_neg (by decide)]
 have e1 : ((pl d.c (np d.c d.scale.toNat)).reverse.take (np d.c d.scale.toNat - d.scale.toNat)).length + ((pl d.c (np d.c d.scale.toNat)).reverse.drop (np d.c d.scale.toNat - d.scale.toNat)).length = np d.c d.scale.toNat := by
  rw [← List.length_append, List.take_append_drop, List.length_reverse, pl_len]
 generalize (pl d.c (np d.c d.scale.toNat)).reverse.take (np d.c d.scale.toNat - d.scale.toNat) = A at *
 generalize (pl d.c (np d.c d.scale.toNat)).reverse.drop (np d.c d.scale.toNat - d.scale.toNat) = B at *
 generalize np d.c d.scale.toNat = n at *
 split <;> split <;> simp <;> omega
theorem isD_iff {x : UInt8} : isD x = true ↔ 48 ≤ x.toNat ∧ x.toNat ≤ 57 := decide_eq_true_iff
theorem idxL_skip {c : Nat} : ∀ (W T : List UInt8) (i : Nat), (∀ x ∈ W, x.toNat ≠ c) → idxL c (W ++ T) i = idxL c T (i + W.length)
 | [], T, i, _ => rfl
 | x :: W, T, i, h => by
   show (match Nat.beq x.toNat c with | true => some i | false => idxL c (W ++ T) (i + 1)) = _
   have hx : Nat.beq x.toNat c = false := by
    have := h x (List.mem_cons_self ..)
    cases hb : Nat.beq x.toNat c with
    | false => rfl
    | true => exact absurd (Nat.eq_of_beq_eq_true hb) this
   rw [hx]
   show idxL c (W ++ T) (i + 1) = _
   rw [idxL_skip W T (i + 1) (fun y hy => h y (List.mem_cons_of_mem _ hy)), List.length_cons]
   congr 1; omega
theorem idxL_body {W R : List UInt8} (hW : ∀ x ∈ W, isD x = true) (pt : Bool) :
  idxL 46 (W ++ (if pt = true then [46] ++ R else [])) 0 = if pt = true then some W.length else none := by
 rw [idxL_skip W _ 0 (fun x hx => by have := isD_iff.1 (hW x hx); omega)]
 cases pt with
 | false => rfl
 | true => rw [if_pos rfl, if_pos rfl]; show some (0 + W.length) = _; rw [Nat.zero_add]
def txt (ng : Bool) (W : List UInt8) (pt : Bool) (R : List UInt8) : List UInt8 := (if ng = true then [45] else []) ++ (W ++ (if pt = true then [46] ++ R else []))
theorem txt_hasP {ng pt : Bool} {W R : List UInt8} (h0 : W ≠ []) (hW : ∀ x ∈ W, isD x = true) : hasP (txt ng W pt R) [45] = ng := by
 cases ng with
 | true => rfl
 | false =>
   obtain ⟨w, W, rfl⟩ := List.exists_cons_of_ne_nil h0
   show (true && ([w] == [45])) = false
   have := isD_iff.1 (hW w (List.mem_cons_self ..))
   have hw : w ≠ 45 := fun e => by subst e; exact absurd this (by decide)
   simp [hw]
theorem txt_body {ng pt : Bool} {W R : List UInt8} (h0 : W ≠ []) (hW : ∀ x ∈ W, isD x = true) : bodyF (txt ng W pt R) = W ++ (if pt = true then [46] ++ R else []) := by
 unfold bodyF
 rw [txt_hasP h0 hW]
 cases ng <;> rfl
theorem txt_whole {pt : Bool} {W R : List UInt8} (hW : ∀ x ∈ W, isD x = true) : wholeF (W ++ (if pt = true then [46] ++ R else [])) = W := by
 unfold wholeF
 rw [idxL_body hW]
 cases pt with
 | false => simp
 | true => simp
theorem txt_rest {pt : Bool} {W R : List UInt8} (hW : ∀ x ∈ W, isD x = true) (hR : pt = false → R = []) : restF (W ++ (if pt = true then [46] ++ R else [])) = R := by
 unfold restF
 rw [idxL_body hW]
 cases pt with
 | false => simp [hR rfl]
 | true => simp
theorem txt_point {pt : Bool} {W R : List UInt8} (hW : ∀ x ∈ W, isD x = true) : pointF (W ++ (if pt = true then [46] ++ R else [])) = pt := by
 unfold pointF
 rw [idxL_body hW]
 cases pt <;> rfl
theorem all_isD {l : List UInt8} (h : ∀ x ∈ l, isD x = true) : l.all isD = true := List.all_eq_true.2 h
theorem read_txt {ng pt : Bool} {W R : List UInt8} (h0 : W ≠ []) (hW : ∀ x ∈ W, isD x = true) (hR : ∀ x ∈ R, isD x = true) (h1 : pt = false → R = []) (h2 : pt = true → R ≠ [] ∧ R.length ≤ 9) :
  readF (txt ng W pt R) = if 30 < W.length then errD 2 else if 10 ^ 30 ≤ valD (W ++ R) then errD 3 else if (ng && decide (valD (W ++ R) = 0)) = true then errD 2 else okD ⟨ng, valD (W ++ R), R.length⟩ := by
 unfold readF readOk
 rw [txt_body h0 hW, txt_whole hW, txt_rest hW h1, txt_point hW, txt_hasP h0 hW]
 have e1 : runF W 30 = decide (W.length ≤ 30) := by
  unfold runF
  rw [all_isD hW, beq_eq_false_iff_ne.2 h0]; simp
 have e2 : (!pt || runF R 9) = true := by
  cases pt with
  | false => rfl
  | true =>
    obtain ⟨g1, g2⟩ := h2 rfl
    unfold runF
    rw [all_isD hR, beq_eq_false_iff_ne.2 g1]; simp [g2]
 rw [e1, e2, Bool.and_true]
 by_cases h : 30 < W.length
 · rw [if_pos h, if_pos (decide_eq_false (by omega))]
 · rw [if_neg h, if_neg (by rw [decide_eq_true (by omega)]; decide)]
theorem pl_low (c n : Nat) : pl c (n + 1) = dch c 0 :: pl (c / 10) n := by
 unfold pl
 rw [List.range_succ_eq_map, List.map_cons, List.map_map]
 congr 1
 refine List.map_congr_left fun i _ => ?_
 show UInt8.ofNat (48 + c / 10 ^ (i + 1) % 10) = UInt8.ofNat (48 + c / 10 / 10 ^ i % 10)
 rw [Nat.div_div_eq_div_mul, Nat.pow_succ, Nat.mul_comm (10 ^ i)]
theorem dch_nat (c k : Nat) : (dch c k).toNat = 48 + c / 10 ^ k % 10 := by
 unfold dch
 rw [UInt8.toNat_ofNat']
 have := Nat.mod_lt (c / 10 ^ k) (show 0 < 10 by decide)
 omega
theorem pl_isD {c n : Nat} : ∀ x ∈ pl c n, isD x = true := by
 intro x hx
 unfold pl at hx
 obtain ⟨i, _, rfl⟩ := List.mem_map.1 hx
 rw [isD_iff, dch_nat]
 have := Nat.mod_lt (c / 10 ^ i) (show 0 < 10 by decide)
 omega
theorem valD_pl : ∀ (n c : Nat), valD (pl c n).reverse = c % 10 ^ n
 | 0, c => by simp [pl, valD, Nat.mod_one]
 | n + 1, c => by
   rw [pl_low, List.reverse_cons, valD_snoc, valD_pl n, dch_nat, Nat.pow_zero, Nat.div_one, Nat.pow_succ', Nat.mod_mul]
   omega
theorem np_val (c sc : Nat) : c < 10 ^ np c sc := by
 have h : ¬ np c sc < np c sc := by omega
 rw [np_more] at h
 have hp := p10 (np c sc)
 rcases Nat.lt_or_ge c (10 ^ np c sc) with g | g
 · exact g
 · exact absurd (.inr (Nat.div_pos g hp)) h
theorem print_parts {d : Dc} (h : d.right = true) : ∃ W R : List UInt8, ∃ pt : Bool, W ≠ [] ∧ W.length ≤ 30 ∧ (∀ x ∈ W, isD x = true) ∧ (∀ x ∈ R, isD x = true) ∧ (pt = false → R = []) ∧
  (pt = true → R ≠ [] ∧ R.length ≤ 9) ∧ (R.length : Int) = d.scale ∧ valD (W ++ R) = d.c ∧ printF d = txt d.neg W pt R := by
 obtain ⟨a1, a2, a3⟩ := Dc.right_c h
 obtain ⟨ng, c, sc⟩ := d
 simp only at a1 a2 a3 ⊢
 obtain ⟨k, rfl⟩ : ∃ k : Nat, sc = k := ⟨sc.toNat, by omega⟩
 have hn := np_le a1 (show k ≤ 9 by omega)
 have hg := np_ge c k
 have hv := np_val c k
 refine ⟨(pl c (np c k)).reverse.take (np c k - k), (pl c (np c k)).reverse.drop (np c k - k), decide (0 < (k : Int)), ?_, ?_, ?_, ?_, ?_, ?_, ?_, ?_, ?_⟩
 · intro e
   have := congrArg List.length e
   simp [pl_len] at this; omega
 · simp [pl_len]; omega
 · exact fun x hx => pl_isD x (List.mem_reverse.1 (List.mem_of_mem_take hx))
 · exact fun x hx => pl_isD x (List.mem_reverse.1 (List.mem_of_mem_drop hx))
 · intro e
   have := of_decide_eq_false e
   refine List.drop_eq_nil_of_le ?_
   simp [pl_len]; omega
 · intro e
   have := of_decide_eq_true e
   refine ⟨fun e => ?_, ?_⟩
   · have := congrArg List.length e
     simp [pl_len] at this; omega
   · simp [pl_len]; omega
 · simp [pl_len]; omega
 · rw [List.take_append_drop, valD_pl, Nat.mod_eq_of_lt hv]
 · unfold printF txt
   rw [h, if_neg (by decide)]
   simp only [Int.toNat_natCast, decide_eq_true_eq]
end

/- The document's digits, Neg, Cmp, Add, Sub, Mul, Scaled of decimals. No condition. -/
section
variable [Lk]
theorem rdigits_spec {z : St} (wf : WF z) (d : Dc) (hd : d.c < w128) (hr : d.right = true) {S : Int} (h1 : d.scale ≤ S) (h2 : S ≤ 9) :
  Cw Tryz.prog 52 [d.val, .int .i64 S] z fun r s' => K0 z s' ∧ Nd z s' r (d.c * 10 ^ (S - d.scale).toNat) 60 := by
 have hp : Hp (fun _ => False) z [] [] z := Hp.start _ wf _ (by simp)
 obtain ⟨a1, a2, a3⟩ := Dc.right_c hr
 obtain ⟨k, hk⟩ : ∃ k : Nat, S - d.scale = k := ⟨(S - d.scale).toNat, by omega⟩
 have ek : IntKind.i64.wrap (S - d.scale) = (k : Int) := by rw [wi64 (by omega) (by omega)]; exact hk
 have en : (S - d.scale).toNat = k := by omega
 rw [en]
 refine Cw.enterS Tryz.func52 rfl rfl ?_
 refine Sm.seqW ?_
 conv => whnf
 refine hp.var (cs := d.cells) (e := 4) rfl rfl ?_
 clear hp
 intro p2 s hp _
 conv => whnf
 refine Sm.live [1, 2] ?_
 conv => whnf
 refine Sm.seqW ?_
 conv => whnf
 refine ⟨[0, 1, 3, 0, 0, 16, 56, 127, 255, 511], by decide +kernel, by decide +kernel, ?_⟩
 conv => whnf
 refine hp.loadA (l := C2 (d.c % w64) (d.c / w64)) .d rfl (by rfl) rfl rfl ?_
 conv => whnf
 refine hp.rst.call (nat2_spec hp.rst.wf hd) ?_
 intro v5 s5 h5 g5 k5
 obtain ⟨κ5, l5, hnew, d5, e5, n5⟩ := hp.rst.nd k5 h5
 conv => whnf
 refine hp.dkN hnew k5 ?_
 clear hp hnew g5 h5 k5
 intro s hp
 conv => whnf
 refine hp.load (v := .int .i64 d.scale) .d (by rfl) rfl rfl rfl ?_
 conv => whnf
 rw [ek]
 refine hp.rst.call (tenNat_spec hp.rst.wf (k := k) (by omega)) ?_
 intro v6 s6 h6 g6 k6
 obtain ⟨κ6, l6, hnew, d6, e6, n6⟩ := hp.rst.nd k6 h6
 conv => whnf
 refine hp.dkN hnew k6 ?_
 clear hp hnew g6 h6 k6
 intro s hp
 conv => whnf
 refine hp.rst.call (mulNat_spec hp.rst.wf (l := l5) (m := l6) (hp.rst.okF (slA κ5 v5 1 l5.length (natI l5)) (by simp)) (hp.rst.okF (slA κ6 v6 1 l6.length (natI l6)) (by simp)) d5.lt d6.lt (by omega) (by omega)) ?_
 intro v7 s7 h7 g7 k7
 obtain ⟨κ7, l7, hnew, d7, e7, n7⟩ := hp.rst.nd k7 h7
 conv => whnf
 refine hp.dkN hnew k7 ?_
 clear hp hnew g7 h7 k7
 intro s hp
 conv => whnf
 refine Sm.ofW ?_
 conv => whnf
 refine ⟨hp.fr, hp.outN .d d7 ?_ (by omega)⟩
 rw [e7, e5, e6]
theorem rneg_spec {z : St} (wf : WF z) (d : Dc) (hd : d.c < w128) : Cw Tryz.prog 47 [d.val] z fun r s' => K0 z s' ∧ r = (negF d).val := by
 have hp : Hp (fun _ => False) z [] [] z := Hp.start _ wf _ (by simp)
 refine Cw.enterS Tryz.func47 rfl rfl ?_
 refine Sm.seqW ?_
 conv => whnf
 refine hp.var (cs := d.cells) (e := 4) rfl rfl ?_
 clear hp
 intro p1 s hp _
 conv => whnf
 refine hp.alloc (cs := Dc.zero.cells) (e := 4) rfl rfl rfl rfl rfl ?_
 clear hp
 intro p2 s hp _
 conv => whnf
 refine Sm.seq ?_
 refine Sm.seqW ?_
 conv => whnf
 refine hp.loadA (l := d.cells) .d rfl (by rfl) rfl rfl ?_
 conv => whnf
 refine hp.call (rightDec_spec hp.wf d hd) ?_
 clear hp
 rintro _ s rfl hp _
 conv => whnf
 cases hr : d.right with
 | false =>
   refine Sm.ofW ?_
   conv => whnf
   repeat ((first | refine Br.y1 ?_ | refine Br.n1 ?_); conv => whnf)
   have e : negF d = Dc.zero := by unfold negF; rw [if_neg (by rw [hr]; decide)]
   rw [e]
   refine hp.storeW (vs := Dc.zero.cells) rfl .d csx rfl rfl rfl ?_
   clear hp
   intro s hp _
   conv => whnf
   refine hp.loadA (l := Dc.zero.cells) .d rfl (by rfl) rfl rfl ?_
   conv => whnf
   exact ⟨hp.fr, rfl⟩
 | true =>
   refine Sm.ofW ?_
   conv => whnf
   repeat ((first | refine Br.y1 ?_ | refine Br.n1 ?_); conv => whnf)
   have e : negF d = ⟨!d.neg && !decide (d.c = 0), d.c, d.scale⟩ := by unfold negF; rw [if_pos hr]
   rw [e]
   clear e hr
   obtain ⟨ng, n, sc⟩ := d
   simp only at hd ⊢
   refine Sm.live [1, 2] ?_
   conv => whnf
   refine Sm.seqW ?_
   conv => whnf
   refine hp.load (v := .bool ng) .d (by rfl) rfl rfl rfl ?_
   conv => whnf
   cases ng with
   | true =>
     repeat ((first | refine Br.y1 ?_ | refine Br.n1 ?_); conv => whnf)
     refine hp.store (off := 0) .d (by show 0 < 4; decide) rfl rfl rfl rfl ?_
     clear hp
     intro s hp _
     conv => whnf
     refine Sm.seqW ?_
     conv => whnf
     refine hp.loadA (l := Dc.cells ⟨false, n, sc⟩) .d rfl (by rfl) rfl rfl ?_
     conv => whnf
     refine hp.storeW (vs := Dc.cells ⟨false, n, sc⟩) rfl .d (Dc_same _ Dc.zero) rfl rfl rfl ?_
     clear hp
     intro s hp _
     conv => whnf
     refine Sm.ofW ?_
     conv => whnf
     refine hp.loadA (l := Dc.cells ⟨false, n, sc⟩) .d rfl (by rfl) rfl rfl ?_
     conv => whnf
     exact ⟨hp.fr, rfl⟩
   | false =>
     repeat ((first | refine Br.y1 ?_ | refine Br.n1 ?_); conv => whnf)
     refine hp.loadA (l := C2 (n % w64) (n / w64)) .d rfl (by rfl) rfl rfl ?_
     conv => whnf
     repeat ((first | refine Br.y1 ?_ | refine Br.n1 ?_); conv => whnf)
     refine Om.of _ (z_ne n _) ?_
     conv => whnf
     repeat ((first | refine Br.y1 ?_ | refine Br.n1 ?_); conv => whnf)
     refine hp.store (off := 0) .d (by show 0 < 4; decide) rfl rfl rfl rfl ?_
     clear hp
     intro s hp _
     conv => whnf
     refine Sm.seqW ?_
     conv => whnf
     refine hp.loadA (l := Dc.cells ⟨!decide (n = 0), n, sc⟩) .d rfl (by rfl) rfl rfl ?_
     conv => whnf
     refine hp.storeW (vs := Dc.cells ⟨!decide (n = 0), n, sc⟩) rfl .d (Dc_same _ Dc.zero) rfl rfl rfl ?_
     clear hp
     intro s hp _
     conv => whnf
     refine Sm.ofW ?_
     conv => whnf
     refine hp.loadA (l := Dc.cells ⟨!decide (n = 0), n, sc⟩) .d rfl (by rfl) rfl rfl ?_
     conv => whnf
     exact ⟨hp.fr, rfl⟩
theorem radd_spec {z : St} (wf : WF z) (a b : Dc) (ha : a.c < w128) (hb : b.c < w128) : Cw Tryz.prog 15 [a.val, b.val] z fun r s' => K0 z s' ∧ r = addF a b := by
 have hp : Hp (fun _ => False) z [] [] z := Hp.start _ wf _ (by simp)
 refine Cw.enterS Tryz.func15 rfl rfl ?_
 refine Sm.seqW ?_
 conv => whnf
 refine hp.var (cs := a.cells) (e := 4) rfl rfl ?_
 clear hp
 intro p2 s hp _
 conv => whnf
 refine hp.var (cs := b.cells) (e := 4) rfl rfl ?_
 clear hp
 intro p3 s hp _
 conv => whnf
 refine hp.alloc (cs := Dc.zero.cells) (e := 4) rfl rfl rfl rfl rfl ?_
 clear hp
 intro p4 s hp _
 conv => whnf
 refine Sm.live [2, 3, 4] ?_
 conv => whnf
 refine Sm.seq ?_
 refine Sm.seqW ?_
 conv => whnf
 refine hp.loadA (l := a.cells) .d rfl (by rfl) rfl rfl ?_
 conv => whnf
 refine hp.call (rightDec_spec hp.wf a ha) ?_
 clear hp
 rintro _ s rfl hp _
 conv => whnf
 cases hr : a.right with
 | false =>
   repeat ((first | refine Br.y1 ?_ | refine Br.n1 ?_); conv => whnf)
   refine Sm.ofW ?_
   conv => whnf
   repeat ((first | refine Br.y1 ?_ | refine Br.n1 ?_); conv => whnf)
   refine hp.storeW (vs := Dc.zero.cells) rfl .d csx rfl rfl rfl ?_
   clear hp
   intro s hp _
   conv => whnf
   refine hp.loadA (l := Dc.zero.cells) .d rfl (by rfl) rfl rfl ?_
   conv => whnf
   exact ⟨hp.fr, by unfold addF; rw [if_pos (.inl hr)]; rfl⟩
 | true =>
   repeat ((first | refine Br.y1 ?_ | refine Br.n1 ?_); conv => whnf)
   refine hp.loadA (l := b.cells) .d rfl (by rfl) rfl rfl ?_
   conv => whnf
   repeat ((first | refine Br.y1 ?_ | refine Br.n1 ?_); conv => whnf)
   refine hp.call (rightDec_spec hp.wf b hb) ?_
   clear hp
   rintro _ s rfl hp _
   conv => whnf
   cases hrb : b.right with
   | false =>
     repeat ((first | refine Br.y1 ?_ | refine Br.n1 ?_); conv => whnf)
     refine Sm.ofW ?_
     conv => whnf
     repeat ((first | refine Br.y1 ?_ | refine Br.n1 ?_); conv => whnf)
     refine hp.storeW (vs := Dc.zero.cells) rfl .d csx rfl rfl rfl ?_
     clear hp
     intro s hp _
     conv => whnf
     refine hp.loadA (l := Dc.zero.cells) .d rfl (by rfl) rfl rfl ?_
     conv => whnf
     exact ⟨hp.fr, by unfold addF; rw [if_pos (.inr hrb)]; rfl⟩
   | true =>
     obtain ⟨a1, a2, a3⟩ := Dc.right_c hr
     obtain ⟨b1, b2, b3⟩ := Dc.right_c hrb
     repeat ((first | refine Br.y1 ?_ | refine Br.n1 ?_); conv => whnf)
     refine Sm.ofW ?_
     conv => whnf
     repeat ((first | refine Br.y1 ?_ | refine Br.n1 ?_); conv => whnf)
     refine Sm.seqW ?_
     conv => whnf
     refine hp.load (v := .int .i64 a.scale) .d (by rfl) rfl rfl rfl ?_
     conv => whnf
     refine hp.load (v := .int .i64 b.scale) .d (by rfl) rfl rfl rfl ?_
     conv => whnf
     have em2 : (if b.scale > a.scale then b.scale else a.scale) = max a.scale b.scale := by split <;> omega
     have hfin : addF a b = mkI (up a (max a.scale b.scale) + up b (max a.scale b.scale)) (max a.scale b.scale) := by unfold addF; rw [if_neg (by simp [hr, hrb])]
     rw [em2]
     generalize hS : max a.scale b.scale = S at *
     have hsame := add_same (a := a) (b := b) (S := S)
     have hleft := add_left (a := a) (b := b) (S := S)
     have hright := add_right (a := a) (b := b) (S := S)
     refine Sm.live [2, 3, 4, 6] ?_
     conv => whnf
     refine Sm.seqW ?_
     conv => whnf
     refine hp.loadA (l := a.cells) .d rfl (by rfl) rfl rfl ?_
     conv => whnf
     refine hp.call (rdigits_spec hp.wf a ha hr (S := S) (by omega) (by omega)) ?_
     intro v7 s7 h7 g7 k7
     obtain ⟨κ7, l7, hnew, d7, e7, n7⟩ := hp.nd k7 h7
     clear hp g7 h7 k7
     have hp := hnew
     clear hnew
     conv => whnf
     refine Sm.live [2, 3, 4, 6, 7] ?_
     conv => whnf
     refine Sm.seqW ?_
     conv => whnf
     refine hp.loadA (l := b.cells) .d rfl (by rfl) rfl rfl ?_
     conv => whnf
     refine hp.call (rdigits_spec hp.wf b hb hrb (S := S) (by omega) (by omega)) ?_
     intro v8 s8 h8 g8 k8
     obtain ⟨κ8, l8, hnew, d8, e8, n8⟩ := hp.nd k8 h8
     clear hp g8 h8 k8
     have hp := hnew
     clear hnew
     conv => whnf
     have S1 : 0 ≤ S ∧ S ≤ 9 := by omega
     generalize a.c * 10 ^ (S - a.scale).toNat = x at *
     generalize b.c * 10 ^ (S - b.scale).toNat = y at *
     refine Sm.live [2, 3, 4, 6, 7, 8] ?_
     conv => whnf
     refine Sm.seq ?_
     refine Sm.block ?_
     refine Sm.seqW ?_
     conv => whnf
     refine hp.load (v := .bool a.neg) .d (by rfl) rfl rfl rfl ?_
     conv => whnf
     refine hp.load (v := .bool b.neg) .d (by rfl) rfl rfl rfl ?_
     conv => whnf
     refine Om.of _ (rfl) ?_
     conv => whnf
     refine Sm.live [2, 3, 4, 6, 7, 8, 29] ?_
     conv => whnf
     refine Sm.ofW ?_
     conv => whnf
     by_cases hn : a.neg = b.neg
     · refine Br.yes (beq_iff_eq.2 hn) ?_
       conv => whnf
       refine ⟨[0, 1, 0, 0, 12, 0, 63, 127, 127, 511, 1023], by decide +kernel, by decide +kernel, ?_⟩
       conv => whnf
       refine hp.load (v := .bool a.neg) .d (by rfl) rfl rfl rfl ?_
       conv => whnf
       refine hp.rst.call (addNat_spec hp.rst.wf (l := l7) (m := l8) (hp.rst.okF (slA κ7 v7 1 l7.length (natI l7)) (by simp)) (hp.rst.okF (slA κ8 v8 1 l8.length (natI l8)) (by simp)) d7.lt d8.lt (by omega) (by omega)) ?_
       intro v9 s9 h9 g9 k9
       obtain ⟨κ9, l9, hnew, d9, e9, n9⟩ := hp.rst.nd k9 h9
       conv => whnf
       refine hp.dkN hnew k9 ?_
       clear hp hnew g9 h9 k9
       intro s hp
       conv => whnf
       refine hp.rst.call (make_spec hp.rst.wf a.neg (l := l9) (hp.rst.okF (slA κ9 v9 1 l9.length (natI l9)) (by simp)) d9 (by omega) S) ?_
       rintro _ s1 rfl h1 k1
       conv => whnf
       refine hp.dkN h1 k1 ?_
       clear hp h1 k1
       intro s hp
       conv => whnf
       rw [makeF_ok S1.1 S1.2, e9, e7, e8, hsame hn, ← hfin]
       obtain ⟨r, re, hx⟩ := addF_shape a b
       rw [hx]
       conv => whnf
       refine hp.rst.storeW (vs := r.cells) rfl .d csx rfl rfl rfl ?_
       intro s1 h1 l1
       conv => whnf
       refine hp.dkW h1 l1 ?_
       clear hp h1 l1
       intro s hp
       conv => whnf
       refine hp.loadA (l := r.cells) .d rfl (by rfl) rfl rfl ?_
       conv => whnf
       exact ⟨hp.fr, rfl⟩
     · refine Br.no (beq_eq_false_iff_ne.2 hn) ?_
       conv => whnf
       refine (cmpNat_spec _ (hp.okF (slA κ7 v7 1 l7.length (natI l7)) (by simp)) (hp.okF (slA κ8 v8 1 l8.length (natI l8)) (by simp)) d7 d8 (by omega) (by omega)).mono ?_
       rintro _ s1 ⟨h1, rfl⟩
       obtain rfl := h1.symm
       conv => whnf
       rw [e7, e8]
       by_cases hle : y ≤ x
       · have hc : decide (cmpI x y ≥ 0) = true := decide_eq_true (by unfold cmpI; rw [if_neg (by omega)]; split <;> decide)
         refine Br.yes (hc) ?_
         conv => whnf
         refine ⟨[0, 1, 0, 0, 12, 0, 63, 127, 127, 511, 1023], by decide +kernel, by decide +kernel, ?_⟩
         conv => whnf
         refine hp.load (v := .bool a.neg) .d (by rfl) rfl rfl rfl ?_
         conv => whnf
         refine hp.rst.call (subNat_spec hp.rst.wf (l := l7) (m := l8) (hp.rst.okF (slA κ7 v7 1 l7.length (natI l7)) (by simp)) (hp.rst.okF (slA κ8 v8 1 l8.length (natI l8)) (by simp)) d7.lt d8.lt (by omega) (by omega) (by rw [e7, e8]; exact hle)) ?_
         intro v9 s9 h9 g9 k9
         obtain ⟨κ9, l9, hnew, d9, e9, n9⟩ := hp.rst.nd k9 h9
         conv => whnf
         refine hp.dkN hnew k9 ?_
         clear hp hnew g9 h9 k9
         intro s hp
         conv => whnf
         refine hp.rst.call (make_spec hp.rst.wf a.neg (l := l9) (hp.rst.okF (slA κ9 v9 1 l9.length (natI l9)) (by simp)) d9 (by omega) S) ?_
         rintro _ s1 rfl h1 k1
         conv => whnf
         refine hp.dkN h1 k1 ?_
         clear hp h1 k1
         intro s hp
         conv => whnf
         rw [makeF_ok S1.1 S1.2, e9, e7, e8, hleft hn hle, ← hfin]
         obtain ⟨r, re, hx⟩ := addF_shape a b
         rw [hx]
         conv => whnf
         refine hp.rst.storeW (vs := r.cells) rfl .d csx rfl rfl rfl ?_
         intro s1 h1 l1
         conv => whnf
         refine hp.dkW h1 l1 ?_
         clear hp h1 l1
         intro s hp
         conv => whnf
         refine hp.loadA (l := r.cells) .d rfl (by rfl) rfl rfl ?_
         conv => whnf
         exact ⟨hp.fr, rfl⟩
       · have hc : decide (cmpI x y ≥ 0) = false := decide_eq_false (by unfold cmpI; rw [if_pos (by omega)]; decide)
         refine Br.no (hc) ?_
         conv => whnf
         refine Sm.seqW ?_
         conv => whnf
         refine ⟨[0, 1, 0, 0, 12, 0, 63, 127, 127, 511, 1023], by decide +kernel, by decide +kernel, ?_⟩
         conv => whnf
         refine hp.load (v := .bool b.neg) .d (by rfl) rfl rfl rfl ?_
         conv => whnf
         refine hp.rst.call (subNat_spec hp.rst.wf (l := l8) (m := l7) (hp.rst.okF (slA κ8 v8 1 l8.length (natI l8)) (by simp)) (hp.rst.okF (slA κ7 v7 1 l7.length (natI l7)) (by simp)) d8.lt d7.lt (by omega) (by omega) (by rw [e7, e8]; omega)) ?_
         intro v9 s9 h9 g9 k9
         obtain ⟨κ9, l9, hnew, d9, e9, n9⟩ := hp.rst.nd k9 h9
         conv => whnf
         refine hp.dkN hnew k9 ?_
         clear hp hnew g9 h9 k9
         intro s hp
         conv => whnf
         refine hp.rst.call (make_spec hp.rst.wf b.neg (l := l9) (hp.rst.okF (slA κ9 v9 1 l9.length (natI l9)) (by simp)) d9 (by omega) S) ?_
         rintro _ s1 rfl h1 k1
         conv => whnf
         refine hp.dkN h1 k1 ?_
         clear hp h1 k1
         intro s hp
         conv => whnf
         rw [makeF_ok S1.1 S1.2, e9, e7, e8, hright hn (by omega), ← hfin]
         obtain ⟨r, re, hx⟩ := addF_shape a b
         rw [hx]
         conv => whnf
         refine hp.rst.storeW (vs := r.cells) rfl .d csx rfl rfl rfl ?_
         intro s1 h1 l1
         conv => whnf
         refine hp.dkW h1 l1 ?_
         clear hp h1 l1
         intro s hp
         conv => whnf
         refine Sm.ofW ?_
         conv => whnf
         refine hp.loadA (l := r.cells) .d rfl (by rfl) rfl rfl ?_
         conv => whnf
         exact ⟨hp.fr, rfl⟩
end

/- The document's Print. No condition. -/
section
variable [Lk]
def preF (c sc k : Nat) : List UInt8 := if sc < k ∧ 0 < sc then (pl c k).reverse.take (k - sc) ++ 46 :: (pl c k).reverse.drop (k - sc) else (pl c k).reverse
theorem preF_step (c sc k : Nat) : preF c sc (k + 1) = dch c k :: (if k = sc ∧ 0 < k then 46 :: preF c sc k else preF c sc k) := by
 unfold preF
 rw [pl_succ, List.reverse_append, List.reverse_singleton, List.singleton_append]
 by_cases h0 : 0 < sc
 · by_cases h1 : k < sc
   · rw [if_neg (by omega), if_neg (by omega), if_neg (by omega)]
   · by_cases h2 : k = sc
     · subst h2
       rw [if_pos ⟨by omega, h0⟩, if_pos ⟨rfl, h0⟩, if_neg (by omega), show k + 1 - k = 1 by omega]
       rfl
     · rw [if_pos ⟨by omega, h0⟩, if_neg (by omega), if_pos ⟨by omega, h0⟩, show k + 1 - sc = (k - sc) + 1 by omega]
       rfl
 · rw [if_neg (by omega), if_neg (by omega), if_neg (by omega)]
theorem preF_len (c sc k : Nat) : (preF c sc k).length ≤ k + 1 := by
 unfold preF
 split
 · simp [pl_len]; omega
 · simp [pl_len]
theorem Vd_digit : ∀ (l : List Nat) (k : Nat), (∀ d ∈ l, d < 10) → l.getD k 0 = Vd l / 10 ^ k % 10
 | [], k, _ => by simp [Vd]
 | d :: l, 0, h => by
   have := h d (List.mem_cons_self ..)
   show d = (d + 10 * Vd l) / 10 ^ 0 % 10
   rw [Nat.pow_zero, Nat.div_one]; omega
 | d :: l, k + 1, h => by
   have hd := h d (List.mem_cons_self ..)
   show l.getD k 0 = (d + 10 * Vd l) / 10 ^ (k + 1) % 10
   rw [Vd_digit l k (fun x hx => h x (List.mem_cons_of_mem _ hx)), Nat.pow_succ', ← Nat.div_div_eq_div_mul, show (d + 10 * Vd l) / 10 = Vd l by omega]
theorem u8_dig : ∀ d, d < 10 → IntKind.u8.wrap (IntKind.i64.wrap (48 + ((d : Nat) : Int))) = (((UInt8.ofNat (48 + d)).toNat : Nat) : Int) := by decide +kernel
theorem printF_pre {ng : Bool} {c k : Nat} (hr : (Dc.mk ng c (k : Int)).right = true) : printF ⟨ng, c, k⟩ = (if ng = true then [45] else []) ++ preF c k (np c k) := by
 unfold printF preF
 rw [hr, if_neg (by decide)]
 simp only [Int.toNat_natCast]
 have hn := np_ge c k
 generalize np c k = n at *
 congr 1
 by_cases h : 0 < k
 · rw [if_pos (show (0 : Int) < (k : Int) by omega), if_pos ⟨hn, h⟩]; rfl
 · obtain rfl : k = 0 := by omega
   rw [if_neg (show ¬ (0 : Int) < ((0 : Nat) : Int) by omega), if_neg (by omega), List.append_nil, List.take_of_length_le (by simp [pl_len])]
theorem rprint_spec {z : St} (wf : WF z) (d : Dc) (hd : d.c < w128) : Cw Tryz.prog 44 [d.val] z fun r s' => K0 z s' ∧ r = sv (printF d) := by
 have hp : Hp (fun _ => False) z [] [] z := Hp.start _ wf _ (by simp)
 refine Cw.enterS Tryz.func44 rfl rfl ?_
 refine Sm.seqW ?_
 conv => whnf
 refine hp.var (cs := d.cells) (e := 4) rfl rfl ?_
 clear hp
 intro p1 s hp _
 conv => whnf
 refine Sm.live [1] ?_
 conv => whnf
 refine Sm.seq ?_
 refine Sm.seqW ?_
 conv => whnf
 refine hp.loadA (l := d.cells) .d rfl (by rfl) rfl rfl ?_
 conv => whnf
 refine hp.call (rightDec_spec hp.wf d hd) ?_
 clear hp
 rintro _ s rfl hp _
 conv => whnf
 cases hr : d.right with
 | false =>
   refine Sm.live [1, 8] ?_
   conv => whnf
   refine Sm.ofW ?_
   conv => whnf
   repeat ((first | refine Br.y1 ?_ | refine Br.n1 ?_); conv => whnf)
   exact ⟨hp.fr, by rw [show printF d = [] from if_pos hr]; rfl⟩
 | true =>
   refine Sm.live [1, 8] ?_
   conv => whnf
   refine Sm.ofW ?_
   conv => whnf
   repeat ((first | refine Br.y1 ?_ | refine Br.n1 ?_); conv => whnf)
   obtain ⟨a1, a2, a3⟩ := Dc.right_c hr
   obtain ⟨ng, c, sc⟩ := d
   simp only at hd a1 a2 a3
   obtain ⟨k, rfl⟩ : ∃ k : Nat, sc = k := ⟨sc.toNat, by omega⟩
   rw [printF_pre hr]
   have hnp := np_le a1 (show k ≤ 9 by omega)
   have hmore : ∀ i, i < np c k ↔ i ≤ k ∨ 0 < c / 10 ^ i := fun i => np_more
   generalize np c k = n at *
   refine Sm.seqW ?_
   conv => whnf
   refine hp.loadA (l := C2 (c % w64) (c / w64)) .d rfl (by rfl) rfl rfl ?_
   conv => whnf
   refine hp.call (nat2_spec hp.wf hd) ?_
   intro v5 s5 h5 g5 k5
   obtain ⟨κ5, l5, hnew, d5, e5, n5⟩ := hp.nd k5 h5
   clear hp g5 h5 k5
   have hp := hnew
   clear hnew
   conv => whnf
   obtain ⟨aV, cV, rfl⟩ := (show Sd _ κ5 v5 l5 from (hp.okF (slA κ5 v5 1 l5.length (natI l5)) (by simp))).shape
   have hsm : ∀ i, i < l5.length ↔ 0 < c / 10 ^ i := fun i => by
    have h1 := d5.small i
    rw [e5] at h1
    have hp10 := p10 i
    constructor
    · intro g
      have : ¬ c < 10 ^ i := fun q => by have := h1.1 q; omega
      exact Nat.div_pos (by omega) hp10
    · intro g
      rcases Nat.lt_or_ge i l5.length with q | q
      · exact q
      · have := h1.2 q
        rw [Nat.div_eq_of_lt this] at g; exact absurd g (by decide)
   have hdg : ∀ i, l5.getD i 0 = c / 10 ^ i % 10 := fun i => by rw [Vd_digit l5 i d5.lt, e5]
   clear d5 e5
   refine Sm.live [1, 3] ?_
   conv => whnf
   refine Sm.seqW ?_
   conv => whnf
   refine Sm.live [1, 3, 4] ?_
   conv => whnf
   refine Sm.seq ?_
   refine Sm.seqW ?_
   conv => whnf
   refine Sm.live [1, 3, 4, 5] ?_
   conv => whnf
   refine Sm.block ?_
   refine Sm.loop ?_
   refine Lp.ofS (α := Nat) (fun i => [(1, .pointer (some ⟨p1, 0, none⟩)), (3, .slice aV l5.length cV), (4, sv (preF c k i)), (5, .int .i64 (i : Int))])
    (fun i s' => i ≤ n ∧ Hp (fun _ => False) z [] [slA κ5 (.slice aV l5.length cV) 1 l5.length (natI l5), blkA p1 p1 (Dc.mk ng c (k : Int)).cells 4] s') (fun i => n - i) ?_ 0 (subK_ok (by refine ⟨rfl, rfl, congrArg (fun x => some (sv x)) (show [] = preF c k 0 from (if_neg (by omega)).symm), rfl, trivial⟩)) ⟨Nat.zero_le _, hp.pik (by repeat (first | exact Pik.nil | exact Pik.refl _ | exact Rm.here | apply Rm.there | apply Pik.cons | apply Pik.skip))⟩
   clear hp
   rintro i s ⟨hi, hp⟩
   have hm := hmore i
   have hs := hsm i
   refine Sm.seq ?_
   refine Sm.seqC (fun e L' s' => e = .normal ∧ s' = s ∧ Sub [(1, .pointer (some ⟨p1, 0, none⟩)), (3, .slice aV l5.length cV), (4, sv (preF c k i)), (5, .int .i64 (i : Int)), (21, .bool (decide (i < n)))] L') ?_ ?_
   · conv => whnf
     by_cases h1 : i < l5.length
     · have q1 : decide ((i : Int) < (l5.length : Int)) = true := decide_eq_true (by omega)
       repeat (first | (refine Br.yes q1 ?_; conv => whnf) | ((first | refine Br.y1 ?_ | refine Br.n1 ?_); conv => whnf))
       have : decide (i < n) = true := decide_eq_true (hm.2 (.inr (hs.1 h1)))
       rw [this]
       exact ⟨rfl, rfl, subK_ok ⟨rfl, rfl, rfl, rfl, rfl, trivial⟩⟩
     · have q1 : decide ((i : Int) < (l5.length : Int)) = false := decide_eq_false (by omega)
       repeat (first | (refine Br.no q1 ?_; conv => whnf) | ((first | refine Br.y1 ?_ | refine Br.n1 ?_); conv => whnf))
       refine hp.load (v := .int .i64 (k : Int)) .d (by rfl) rfl rfl rfl ?_
       conv => whnf
       repeat (first | (refine Br.no q1 ?_; conv => whnf) | ((first | refine Br.y1 ?_ | refine Br.n1 ?_); conv => whnf))
       have : decide (i < n) = decide ((i : Int) ≤ (k : Int)) := decide_eq_decide.2 (by rw [hm, ← hs]; omega)
       rw [this]
       exact ⟨rfl, rfl, subK_ok ⟨rfl, rfl, rfl, rfl, rfl, trivial⟩⟩
   rintro e L' s' ⟨rfl, rfl, hs⟩
   refine Sm.weak _ hs ?_
   clear hs
   refine Sm.ofW ?_
   conv => whnf
   refine Br.mk (fun hc => ?_) (fun hc => ?_)
   · have hc : i < n := of_decide_eq_true hc
     conv => whnf
     refine Sm.seq (Sm.mono (Q := fun e L' s' => e = .normal ∧ Hp (fun _ => False) z [] [slA κ5 (.slice aV l5.length cV) 1 l5.length (natI l5), blkA p1 p1 (Dc.mk ng c (k : Int)).cells 4] s' ∧ Sub [(1, .pointer (some ⟨p1, 0, none⟩)), (3, .slice aV l5.length cV), (4, sv (preF c k (i + 1))), (5, .int .i64 (i : Int))] L') ?_ ?_)
     · refine Sm.block ?_
       refine Sm.seqC (fun e L' s'' => e = .normal ∧ s'' = s' ∧ Sub [(1, .pointer (some ⟨p1, 0, none⟩)), (3, .slice aV l5.length cV), (4, sv (if i = k ∧ 0 < i then 46 :: preF c k i else preF c k i)), (5, .int .i64 (i : Int))] L') ?_ ?_
       · conv => whnf
         refine hp.load (v := .int .i64 (k : Int)) .d (by rfl) rfl rfl rfl ?_
         conv => whnf
         have hpl := preF_len c k i
         by_cases hik : i = k
         · have q1 : ((i : Int) == (k : Int)) = true := beq_iff_eq.2 (by omega)
           by_cases h0 : 0 < i
           · have q2 : decide ((i : Int) > 0) = true := decide_eq_true (by omega)
             rw [if_pos ⟨hik, h0⟩]
             repeat (first | (refine Br.yes q1 ?_; conv => whnf) | (refine Br.yes q2 ?_; conv => whnf) | ((first | refine Br.y1 ?_ | refine Br.n1 ?_); conv => whnf))
             refine Om.of _ (str_add ⟨#[46]⟩ ⟨(preF c k i).toArray⟩ (by show 1 + (preF c k i).length ≤ _; omega)) ?_
             conv => whnf
             exact ⟨rfl, rfl, subK_ok ⟨rfl, rfl, rfl, rfl, trivial⟩⟩
           · have q2 : decide ((i : Int) > 0) = false := decide_eq_false (by omega)
             rw [if_neg (by omega)]
             repeat (first | (refine Br.yes q1 ?_; conv => whnf) | (refine Br.no q2 ?_; conv => whnf) | ((first | refine Br.y1 ?_ | refine Br.n1 ?_); conv => whnf))
             exact ⟨rfl, rfl, subK_ok ⟨rfl, rfl, rfl, rfl, trivial⟩⟩
         · have q1 : ((i : Int) == (k : Int)) = false := beq_eq_false_iff_ne.2 (by omega)
           rw [if_neg (by omega)]
           repeat (first | (refine Br.no q1 ?_; conv => whnf) | ((first | refine Br.y1 ?_ | refine Br.n1 ?_); conv => whnf))
           exact ⟨rfl, rfl, subK_ok ⟨rfl, rfl, rfl, rfl, trivial⟩⟩
       rintro e L' s' ⟨rfl, rfl, hs⟩
       refine Sm.weak _ hs ?_
       clear hs
       have hpl : (if i = k ∧ 0 < i then 46 :: preF c k i else preF c k i).length ≤ 40 := by
        have := preF_len c k i
        split <;> simp <;> omega
       have hst := preF_step c k i
       generalize (if i = k ∧ 0 < i then 46 :: preF c k i else preF c k i) = T at *
       refine Sm.ofW ?_
       conv => whnf
       refine (digit_spec _ (hp.okF (slA κ5 (.slice aV l5.length cV) 1 l5.length (natI l5)) (by simp)) i).mono ?_
       rintro _ s1 ⟨h1, rfl⟩
       obtain rfl := h1.symm
       conv => whnf
       rw [hdg, u8_dig _ (Nat.mod_lt _ (by decide))]
       refine hp.one BD rfl ?_
       clear hp
       intro v4 b4 s4 hp _
       conv => whnf
       have hsb : Sb s4 (some b4) v4 [dch c i] := (hp.okF _ List.mem_cons_self : Own s4 b4 v4 1 1 [.int .u8 (((dch c i).toNat : Nat) : Int)]).sl
       obtain ⟨a4, c4, rfl⟩ := hsb.shape
       refine Om.of _ (string_sl Tryz.underlying59 Tryz.underlying9 Tryz.underlying5 hsb) ?_
       conv => whnf
       refine Om.of _ (str_add ⟨[dch c i].toArray⟩ ⟨T.toArray⟩ (by show 1 + T.length ≤ _; omega)) ?_
       conv => whnf
       rw [hst]
       exact ⟨rfl, hp.pik (by repeat (first | exact Pik.nil | exact Pik.refl _ | exact Rm.here | apply Rm.there | apply Pik.cons | apply Pik.skip)), subK_ok ⟨rfl, rfl, rfl, rfl, trivial⟩⟩
     clear hp
     rintro e L' s ⟨rfl, hp, hs⟩
     refine Sm.weak _ hs ?_
     clear hs
     refine Sm.ofW ?_
     conv => whnf
     exact ⟨i + 1, by (show n - (i + 1) < n - i); omega, subK_ok (by refine ⟨rfl, rfl, rfl, congrArg (fun x => some (Value.int .i64 x)) (show IntKind.i64.wrap ((i : Int) + 1) = ((i + 1 : Nat) : Int) by rw [wi64 (by omega) (by omega)]; omega), trivial⟩), by omega, hp⟩
   · have hc : ¬ i < n := of_decide_eq_false hc
     obtain rfl : i = n := by omega
     have hlen := preF_len c k i
     conv => whnf
     refine Sm.seqC (fun e L' s'' => e = .normal ∧ s'' = s' ∧ Sub [(4, sv ((if ng = true then [45] else []) ++ preF c k i))] L') ?_ ?_
     · conv => whnf
       refine hp.load (v := .bool ng) .d (by rfl) rfl rfl rfl ?_
       conv => whnf
       cases ng with
       | false =>
         repeat ((first | refine Br.y1 ?_ | refine Br.n1 ?_); conv => whnf)
         exact ⟨rfl, rfl, subK_ok ⟨rfl, trivial⟩⟩
       | true =>
         repeat ((first | refine Br.y1 ?_ | refine Br.n1 ?_); conv => whnf)
         refine Om.of _ (str_add ⟨#[45]⟩ ⟨(preF c k i).toArray⟩ (by show 1 + (preF c k i).length ≤ _; omega)) ?_
         conv => whnf
         exact ⟨rfl, rfl, subK_ok ⟨rfl, trivial⟩⟩
     rintro e L' s' ⟨rfl, rfl, hs⟩
     refine Sm.weak _ hs ?_
     clear hs
     refine Sm.seqW ?_
     conv => whnf
     refine Sm.live [2] ?_
     conv => whnf
     refine Sm.ofW ?_
     conv => whnf
     exact ⟨hp.fr, rfl⟩
end

/- pyxlaw2.text. No condition. -/
section
variable [Lk]
end

/- The document's Read, without a program. No condition. -/
section
variable [Lk]
def readB (ng : Bool) (b : List UInt8) : Value :=
 if readOk b = false then errD 2 else if 10 ^ 30 ≤ valD (wholeF b ++ restF b) then errD 3
 else if (ng && decide (valD (wholeF b ++ restF b) = 0)) = true then errD 2 else okD ⟨ng, valD (wholeF b ++ restF b), (restF b).length⟩
theorem readF_B (l : List UInt8) : readF l = readB (hasP l [45]) (bodyF l) := rfl
theorem idxL_shift {c : Nat} : ∀ (T : List UInt8) (n : Nat), idxL c T n = (idxL c T 0).map (· + n)
 | [], n => rfl
 | x :: T, n => by
   show (match Nat.beq x.toNat c with | true => some n | false => idxL c T (n + 1)) = (match Nat.beq x.toNat c with | true => some 0 | false => idxL c T (0 + 1)).map (· + n)
   cases Nat.beq x.toNat c with
   | true => simp
   | false =>
     show idxL c T (n + 1) = (idxL c T (0 + 1)).map (· + n)
     rw [idxL_shift T (n + 1), idxL_shift T (0 + 1)]
     cases idxL c T 0 with
     | none => rfl
     | some k => simp; omega
theorem idx_pre {W T : List UInt8} (h : ∀ x ∈ W, x.toNat ≠ 46) : idxL 46 (W ++ T) 0 = (idxL 46 T 0).map (· + W.length) := by
 rw [idxL_skip W T 0 h, Nat.zero_add, idxL_shift]
theorem whole_pre {W T : List UInt8} (h : ∀ x ∈ W, x.toNat ≠ 46) : wholeF (W ++ T) = W ++ wholeF T := by
 unfold wholeF
 rw [idx_pre h]
 cases idxL 46 T 0 with
 | none => rfl
 | some k =>
   show (W ++ T).take (k + W.length) = W ++ T.take k
   rw [List.take_append, List.take_of_length_le (by omega), show k + W.length - W.length = k by omega]
theorem rest_pre {W T : List UInt8} (h : ∀ x ∈ W, x.toNat ≠ 46) : restF (W ++ T) = restF T := by
 unfold restF
 rw [idx_pre h]
 cases idxL 46 T 0 with
 | none => rfl
 | some k =>
   show (W ++ T).drop (k + W.length + 1) = T.drop (k + 1)
   rw [List.drop_append, List.drop_eq_nil_of_le (by omega), List.nil_append]
   congr 1; omega
theorem point_pre {W T : List UInt8} (h : ∀ x ∈ W, x.toNat ≠ 46) : pointF (W ++ T) = pointF T := by
 unfold pointF
 rw [idx_pre h]
 cases idxL 46 T 0 <;> rfl
theorem isD_ne {W : List UInt8} (h : ∀ x ∈ W, isD x = true) : ∀ x ∈ W, x.toNat ≠ 46 := fun x hx => by have := isD_iff.1 (h x hx); omega
theorem runF_no {l : List UInt8} {m : Nat} (h : l = [] ∨ m < l.length ∨ ∃ x ∈ l, isD x = false) : runF l m = false := by
 cases hr : runF l m with
 | false => rfl
 | true =>
   obtain ⟨h1, h2, h3⟩ := runF_ok hr
   rcases h with h | h | ⟨x, hx, h⟩
   · exact absurd h h1
   · omega
   · rw [h3 x hx] at h; cases h
theorem bad_whole {W rest : List UInt8} {x : UInt8} (hW : ∀ y ∈ W, isD y = true) (hx : x.toNat ≠ 46) (h : 30 ≤ W.length ∨ isD x = false) : readOk (W ++ x :: rest) = false := by
 unfold readOk
 have e : W ++ x :: rest = (W ++ [x]) ++ rest := by simp
 have hne : ∀ y ∈ W ++ [x], y.toNat ≠ 46 := fun y hy => by
  rcases List.mem_append.1 hy with g | g
  · exact isD_ne hW y g
  · rw [List.mem_singleton] at g; rw [g]; exact hx
 rw [e, whole_pre hne, runF_no]
 · rfl
 · refine .inr ?_
   rcases h with h | h
   · exact .inl (by simp; omega)
   · exact .inr ⟨x, by simp, h⟩
theorem dot_whole (r : List UInt8) : wholeF (46 :: r) = [] := rfl
theorem dot_rest (r : List UInt8) : restF (46 :: r) = r := rfl
theorem dot_point (r : List UInt8) : pointF (46 :: r) = true := rfl
theorem bad_dot (r : List UInt8) : readOk (46 :: r) = false := by
 unfold readOk
 rw [dot_whole, runF_no (.inl rfl)]; rfl
theorem bad_rest {W R rest : List UInt8} {x : UInt8} (hW : ∀ y ∈ W, isD y = true) (h : 9 ≤ R.length ∨ isD x = false) : readOk (W ++ 46 :: (R ++ x :: rest)) = false := by
 unfold readOk
 rw [whole_pre (isD_ne hW), rest_pre (isD_ne hW), point_pre (isD_ne hW), dot_rest, dot_point, runF_no (l := R ++ x :: rest)]
 · simp
 · refine .inr ?_
   rcases h with h | h
   · exact .inl (by simp; omega)
   · exact .inr ⟨x, by simp, h⟩
def nL (l : List UInt8) : List Nat := (l.map fun x => x.toNat - 48).reverse
theorem nL_len (l : List UInt8) : (nL l).length = l.length := by simp [nL]
theorem nL_snoc (l : List UInt8) (x : UInt8) : nL (l ++ [x]) = (x.toNat - 48) :: nL l := by simp [nL]
theorem Vd_nL' : ∀ m : List UInt8, Vd (m.map fun x => x.toNat - 48) = valD m.reverse
 | [] => rfl
 | x :: m => by
   rw [List.reverse_cons, valD_snoc, ← Vd_nL' m]
   show (x.toNat - 48) + 10 * Vd (m.map fun x => x.toNat - 48) = _
   omega
theorem Vd_nL (l : List UInt8) : Vd (nL l) = valD l := by
 unfold nL
 rw [← List.map_reverse, Vd_nL', List.reverse_reverse]
theorem nL_lt {l : List UInt8} (h : ∀ x ∈ l, isD x = true) : ∀ d ∈ nL l, d < 10 := by
 intro d hd
 unfold nL at hd
 rw [List.mem_reverse] at hd
 obtain ⟨x, hx, rfl⟩ := List.mem_map.1 hd
 have := isD_iff.1 (h x hx)
 omega
structure RdI (b : List UInt8) (i : Nat) (W R : List UInt8) (pt : Bool) : Prop where
 at_ : b.take i = W ++ (if pt = true then [46] ++ R else [])
 le : i ≤ b.length
 w30 : W.length ≤ 30
 r9 : R.length ≤ 9
 dW : ∀ x ∈ W, isD x = true
 dR : ∀ x ∈ R, isD x = true
 off : pt = false → R = []
 on : pt = true → W ≠ []
theorem RdI.split {b W R : List UInt8} {i : Nat} {pt : Bool} (h : RdI b i W R pt) (hi : i < b.length) : b = W ++ ((if pt = true then [46] ++ R else []) ++ b[i] :: b.drop (i + 1)) := by
 have := (List.take_append_drop i b).symm
 rw [h.at_, List.drop_eq_getElem_cons hi] at this
 rw [List.append_assoc] at this
 exact this
theorem RdI.fig {b W R : List UInt8} {i : Nat} (h : RdI b i W R false) (hi : i < b.length) (hx : isD b[i] = true) : (30 ≤ W.length → readOk b = false) ∧ (W.length < 30 → RdI b (i + 1) (W ++ [b[i]]) [] false) := by
 have hs := h.split hi
 have hx' := isD_iff.1 hx
 refine ⟨fun g => ?_, fun g => ⟨?_, by omega, by simp; omega, by simp, ?_, by simp, fun _ => rfl, fun h => nomatch h⟩⟩
 · rw [hs]
   exact bad_whole h.dW (by omega) (.inl g)
 · rw [List.take_succ_eq_append_getElem hi, h.at_]; simp
 · intro y hy
   rcases List.mem_append.1 hy with q | q
   · exact h.dW y q
   · rw [List.mem_singleton] at q; rw [q]; exact hx
theorem RdI.figR {b W R : List UInt8} {i : Nat} (h : RdI b i W R true) (hi : i < b.length) (hx : isD b[i] = true) : (9 ≤ R.length → readOk b = false) ∧ (R.length < 9 → RdI b (i + 1) W (R ++ [b[i]]) true) := by
 have hs := h.split hi
 refine ⟨fun g => ?_, fun g => ⟨?_, by omega, h.w30, by simp; omega, h.dW, ?_, (fun h => nomatch h), fun _ => h.on rfl⟩⟩
 · rw [hs]
   exact bad_rest h.dW (.inl g)
 · rw [List.take_succ_eq_append_getElem hi, h.at_]; simp
 · intro y hy
   rcases List.mem_append.1 hy with q | q
   · exact h.dR y q
   · rw [List.mem_singleton] at q; rw [q]; exact hx
theorem RdI.dot {b W R : List UInt8} {i : Nat} (h : RdI b i W R false) (hi : i < b.length) (hx : b[i] = 46) : (W = [] → readOk b = false) ∧ (W ≠ [] → RdI b (i + 1) W [] true) := by
 have hs := h.split hi
 rw [hx] at hs
 refine ⟨fun g => ?_, fun g => ⟨?_, by omega, h.w30, by simp, h.dW, by simp, (fun h => nomatch h), fun _ => g⟩⟩
 · rw [hs, g]; exact bad_dot _
 · rw [List.take_succ_eq_append_getElem hi, h.at_, hx]; simp
theorem RdI.bad {b W R : List UInt8} {i : Nat} {pt : Bool} (h : RdI b i W R pt) (hi : i < b.length) (hx : isD b[i] = false) (hp : pt = true ∨ b[i] ≠ 46) : readOk b = false := by
 have hs := h.split hi
 rw [hs]
 cases pt with
 | true => exact bad_rest h.dW (.inr hx)
 | false =>
   refine bad_whole h.dW (fun e => ?_) (.inr hx)
   rcases hp with g | g
   · cases g
   · exact g (UInt8.toNat_inj.1 e)
theorem RdI.fin {b W R : List UInt8} {pt : Bool} (h : RdI b b.length W R pt) (ng : Bool) :
  readB ng b = if W = [] ∨ (pt = true ∧ R = []) ∨ (ng = true ∧ valD (W ++ R) = 0) then errD 2 else dmade ng (valD (W ++ R)) (R.length : Int) := by
 have hb : b = W ++ (if pt = true then [46] ++ R else []) := by have := h.at_; rwa [List.take_length] at this
 have bad : readOk b = false → readB ng b = errD 2 := fun g => if_pos g
 by_cases h1 : W = []
 · rw [if_pos (.inl h1)]
   have hpt : pt = false := by
    cases hp : pt with
    | false => rfl
    | true => exact absurd h1 (h.on hp)
   refine bad ?_
   rw [hb, h1, hpt]; rfl
 by_cases h2 : pt = true ∧ R = []
 · rw [if_pos (.inr (.inl h2))]
   refine bad ?_
   rw [hb, h2.1, if_pos rfl]
   unfold readOk
   show (runF (wholeF (W ++ 46 :: R)) 30 && (!pointF (W ++ 46 :: R) || runF (restF (W ++ 46 :: R)) 9)) = false
   rw [rest_pre (isD_ne h.dW), point_pre (isD_ne h.dW), dot_rest, dot_point, h2.2, runF_no (.inl rfl)]; simp
 have hr := read_txt (ng := ng) (pt := pt) h1 h.dW h.dR h.off (fun hp => ⟨fun e => h2 ⟨hp, e⟩, h.r9⟩)
 rw [readF_B, txt_hasP h1 h.dW, txt_body h1 h.dW, ← hb, if_neg (by have := h.w30; omega)] at hr
 rw [hr]
 by_cases h3 : ng = true ∧ valD (W ++ R) = 0
 · have q : W = [] ∨ (pt = true ∧ R = []) ∨ (ng = true ∧ valD (W ++ R) = 0) := .inr (.inr h3)
   rw [if_pos q, h3.1, h3.2, if_neg (by decide), if_pos (by decide)]
 · have q : ¬ (W = [] ∨ (pt = true ∧ R = []) ∨ (ng = true ∧ valD (W ++ R) = 0)) := by
    rintro (g | g | g)
    · exact h1 g
    · exact h2 g
    · exact h3 g
   rw [if_neg q]
   have hnz : (ng && decide (valD (W ++ R) = 0)) = false := by
    cases ng <;> simp at h3 ⊢; exact h3
   unfold dmade
   by_cases h4 : 10 ^ 30 ≤ valD (W ++ R)
   · rw [if_pos h4, if_neg (by omega)]
   · rw [if_neg h4, if_neg (by rw [hnz]; decide), if_pos (by omega)]
     have : (ng && !decide (valD (W ++ R) = 0)) = ng := by cases ng <;> simp at h3 ⊢; exact h3
     rw [this]
end

/- The document's Read walked. No condition. -/
section
variable [Lk]
theorem hasP_cons (x : UInt8) (l : List UInt8) : hasP (x :: l) [45] = (((x.toNat : Nat) : Int) == 45) := by
 show (true && ([x] == [45])) = _
 rw [Bool.true_and, Bool.eq_iff_iff, beq_iff_eq, beq_iff_eq]
 constructor
 · intro h; injection h with h; rw [h]; rfl
 · intro h
   have : x = 45 := UInt8.toNat_inj.1 (by show x.toNat = 45; omega)
   rw [this]
theorem u8_fig {x : UInt8} (h : isD x = true) : IntKind.i64.wrap (IntKind.u8.wrap (((x.toNat : Nat) : Int) - 48)) = ((x.toNat - 48 : Nat) : Int) := by
 have := isD_iff.1 h
 rw [wrap_u8i, wi64 (by omega) (by omega)]; omega
theorem rread_spec {z : St} (wf : WF z) (l : List UInt8) (hl : l.length < 4611686018427387904) : Cw Tryz.prog 88 [sv l] z fun r s' => K0 z s' ∧ r = readF l := by
 have hp : Hp (fun _ => False) z [] [] z := Hp.start _ wf _ (by simp)
 refine Cw.enterS Tryz.func88 rfl rfl ?_
 refine Sm.seqW ?_
 conv => whnf
 refine hp.alloc (cs := Dc.zero.cells) (e := 4) rfl rfl rfl rfl rfl ?_
 clear hp
 intro p2 s hp _
 conv => whnf
 refine Sm.live [0, 2] ?_
 conv => whnf
 refine Sm.seqC (fun e L' s' => e = .normal ∧ s' = s ∧ Sub [(0, sv l), (2, .pointer (some ⟨p2, 0, none⟩)), (4, .bool (hasP l [45]))] L') ?_ ?_
 · conv => whnf
   cases l with
   | nil =>
     repeat ((first | refine Br.y1 ?_ | refine Br.n1 ?_); conv => whnf)
     exact ⟨rfl, rfl, subK_ok ⟨rfl, rfl, rfl, trivial⟩⟩
   | cons x l =>
     have q : decide ((((bs ⟨(x :: l).toArray⟩).length : Nat) : Int) > 0) = true := decide_eq_true (by show (((x :: l).length : Nat) : Int) > 0; simp)
     repeat (first | (refine Br.yes q ?_; conv => whnf) | ((first | refine Br.y1 ?_ | refine Br.n1 ?_); conv => whnf))
     refine Om.of _ (str_index Tryz.underlying9 (l := x :: l) (i := 0) (by simp) .i64) ?_
     conv => whnf
     repeat (first | (refine Br.yes q ?_; conv => whnf) | ((first | refine Br.y1 ?_ | refine Br.n1 ?_); conv => whnf))
     exact ⟨rfl, rfl, subK_ok ⟨rfl, rfl, congrArg (fun x => some (Value.bool x)) (hasP_cons x l).symm, trivial⟩⟩
 rintro e L' s' ⟨rfl, rfl, hs⟩
 refine Sm.weak _ hs ?_
 clear hs
 refine Sm.seqC (fun e L' s'' => e = .normal ∧ s'' = s' ∧ Sub [(0, sv (bodyF l)), (2, .pointer (some ⟨p2, 0, none⟩)), (4, .bool (hasP l [45]))] L') ?_ ?_
 · conv => whnf
   cases hng : hasP l [45] with
   | false =>
     repeat ((first | refine Br.y1 ?_ | refine Br.n1 ?_); conv => whnf)
     exact ⟨rfl, rfl, subK_ok ⟨congrArg (fun x => some (sv x)) (show l = bodyF l from (if_neg (by rw [hng]; decide)).symm), rfl, rfl, trivial⟩⟩
   | true =>
     repeat ((first | refine Br.y1 ?_ | refine Br.n1 ?_); conv => whnf)
     have h1 : 1 ≤ l.length := by
      cases l with
      | nil => cases hng
      | cons x l => simp
     refine Om.of _ (str_drop Tryz.underlying9 .i64 (l := l) (j := 1) h1) ?_
     conv => whnf
     exact ⟨rfl, rfl, subK_ok ⟨congrArg (fun x => some (sv x)) (show l.drop 1 = bodyF l from (if_pos hng).symm), rfl, rfl, trivial⟩⟩
 rintro e L' s' ⟨rfl, rfl, hs⟩
 refine Sm.weak _ hs ?_
 clear hs
 rw [readF_B]
 have hb := body_len l
 generalize hasP l [45] = ng at *
 obtain ⟨b, hbe⟩ : ∃ b, b = bodyF l := ⟨_, rfl⟩
 rw [← hbe] at hb ⊢
 have hbl : b.length < 4611686018427387904 := by omega
 refine Sm.seqW ?_
 conv => whnf
 refine Sm.live [0, 2, 4, 5] ?_
 conv => whnf
 refine Sm.seqW ?_
 conv => whnf
 refine Sm.live [0, 2, 4, 5, 6] ?_
 conv => whnf
 refine Sm.seqW ?_
 conv => whnf
 refine Sm.live [0, 2, 4, 5, 6, 7] ?_
 conv => whnf
 refine Sm.seqW ?_
 conv => whnf
 refine Sm.live [0, 2, 4, 5, 6, 7, 8] ?_
 conv => whnf
 refine Sm.seq ?_
 refine Sm.seqW ?_
 conv => whnf
 refine Sm.live [0, 2, 4, 5, 6, 7, 8, 9] ?_
 conv => whnf
 refine Sm.block ?_
 refine Sm.loop ?_
 refine Lp.ofS (α := Nat × List UInt8 × List UInt8 × Bool × Option Nat × Value) (fun x => [(0, sv b), (2, .pointer (some ⟨p2, 0, none⟩)), (4, .bool ng), (5, x.2.2.2.2.2), (6, .int .i64 ((x.2.1.length : Nat) : Int)), (7, .int .i64 ((x.2.2.1.length : Nat) : Int)), (8, .bool x.2.2.2.1), (9, .int .i64 (x.1 : Int))])
  (fun x s' => RdI b x.1 x.2.1 x.2.2.1 x.2.2.2.1 ∧ Hp (fun _ => False) z [] [slA x.2.2.2.2.1 x.2.2.2.2.2 1 (nL (x.2.1 ++ x.2.2.1)).length (natI (nL (x.2.1 ++ x.2.2.1))), blkA p2 p2 Dc.zero.cells 4] s')
  (fun x => b.length - x.1) ?_ (0, [], [], false, none, .slice none 0 0) (subK_ok (by refine ⟨rfl, rfl, rfl, rfl, rfl, rfl, rfl, rfl, trivial⟩))
  ⟨⟨by simp, by omega, by simp, by simp, by simp, by simp, fun _ => rfl, fun h => nomatch h⟩, ((hp.nilA 1).toSl .d (Sl.nil _ _)).pik (by repeat (first | exact Pik.nil | exact Pik.refl _ | exact Rm.here | apply Rm.there | apply Pik.cons | apply Pik.skip))⟩
 clear hp
 rintro ⟨i, W, R, pt, κ, v⟩ s ⟨ok, hp⟩
 simp only at ok hp
 have hle := ok.le
 have hw30 := ok.w30
 have hr9 := ok.r9
 refine Sm.seq ?_
 refine Sm.seqW ?_
 conv => whnf
 refine Sm.live [0, 2, 4, 5, 6, 7, 8, 9, 24] ?_
 conv => whnf
 refine Sm.ofW ?_
 conv => whnf
 refine Br.mk (fun hc => ?_) (fun hc => ?_)
 · have hcI : i < b.length := by have h : (i : Int) < (b.length : Int) := of_decide_eq_true hc; omega
   conv => whnf
   refine Sm.seq ?_
   refine Sm.block ?_
   refine Sm.block ?_
   refine Sm.seqC (fun e L' s' => e = .normal ∧ s' = s ∧ Sub [(0, sv b), (2, .pointer (some ⟨p2, 0, none⟩)), (4, .bool ng), (5, v), (6, .int .i64 ((W.length : Nat) : Int)), (7, .int .i64 ((R.length : Nat) : Int)), (8, .bool pt), (9, .int .i64 (i : Int)), (28, .bool (isD b[i]))] L') ?_ ?_
   · conv => whnf
     refine Om.of _ (str_index Tryz.underlying9 (l := b) (i := i) hcI .i64) ?_
     conv => whnf
     by_cases g : 48 ≤ b[i].toNat
     · have q : decide (((b[i].toNat : Nat) : Int) ≥ 48) = true := decide_eq_true (by omega)
       repeat (first | (refine Br.yes q ?_; conv => whnf) | ((first | refine Br.y1 ?_ | refine Br.n1 ?_); conv => whnf))
       refine Om.of _ (str_index Tryz.underlying9 (l := b) (i := i) hcI .i64) ?_
       conv => whnf
       repeat (first | (refine Br.yes q ?_; conv => whnf) | ((first | refine Br.y1 ?_ | refine Br.n1 ?_); conv => whnf))
       exact ⟨rfl, rfl, subK_ok ⟨rfl, rfl, rfl, rfl, rfl, rfl, rfl, rfl, congrArg (fun x => some (Value.bool x)) (show _ = decide _ from decide_eq_decide.2 (by omega)), trivial⟩⟩
     · have q : decide (((b[i].toNat : Nat) : Int) ≥ 48) = false := decide_eq_false (by omega)
       repeat (first | (refine Br.no q ?_; conv => whnf) | ((first | refine Br.y1 ?_ | refine Br.n1 ?_); conv => whnf))
       have hd : isD b[i] = false := decide_eq_false (by omega)
       rw [hd]
       exact ⟨rfl, rfl, subK_ok ⟨rfl, rfl, rfl, rfl, rfl, rfl, rfl, rfl, rfl, trivial⟩⟩
   rintro e L' s' ⟨rfl, rfl, hs⟩
   refine Sm.weak _ hs ?_
   clear hs
   refine Sm.ofW ?_
   conv => whnf
   have ei : IntKind.i64.wrap ((i : Int) + 1) = ((i + 1 : Nat) : Int) := by rw [wi64 (by omega) (by omega)]; omega
   obtain ⟨aR, cR, rfl⟩ := Sl.shape (show Sl s' κ v 1 (nL (W ++ R)).length (natI (nL (W ++ R))) from hp.okF (slA κ v 1 (nL (W ++ R)).length (natI (nL (W ++ R)))) (by simp))
   cases hd : isD b[i] with
   | true =>
     repeat ((first | refine Br.y1 ?_ | refine Br.n1 ?_); conv => whnf)
     refine Om.of _ (str_index Tryz.underlying9 (l := b) (i := i) hcI .i64) ?_
     conv => whnf
     rw [u8_fig hd]
     have hnl : (nL (W ++ R)).length ≤ 39 := by rw [nL_len, List.length_append]; omega
     refine hp.one ID rfl ?_
     clear hp
     intro v4 b4 s4 hp _
     conv => whnf
     have x4 : Sl s4 κ (.slice aR (nL (W ++ R)).length cR) 1 (nL (W ++ R)).length (natI (nL (W ++ R))) := hp.okF (slA κ (.slice aR (nL (W ++ R)).length cR) 1 (nL (W ++ R)).length (natI (nL (W ++ R)))) (by simp)
     obtain ⟨a4, c4, rfl⟩ := (hp.okF _ List.mem_cons_self : Own s4 b4 v4 1 1 _).sl.shape
     refine (hp.toOn (k := b4) .d).app ID Tryz.underlying88 rfl (κ := some b4) (v := .slice a4 1 c4) .d (elems_sl x4) (by rw [natI_len]; omega) (by simp [natI]; intros; rfl) (by omega) ?_
     clear hp x4
     intro v5 κ5 s5 hp
     have hnv : [Value.int .i64 ((b[i].toNat - 48 : Nat) : Int)] ++ natI (nL (W ++ R)) = natI ((b[i].toNat - 48) :: nL (W ++ R)) := by simp [natI]
     have hln : 1 + (nL (W ++ R)).length = ((b[i].toNat - 48) :: nL (W ++ R)).length := by simp; omega
     rw [hnv, hln, ← nL_snoc] at hp
     replace hp := hp.toSl .d (hp.slF (κ := κ5) (v := v5) .d)
     conv => whnf
     cases pt with
     | false =>
       obtain rfl := ok.off rfl
       obtain ⟨f1, f2⟩ := ok.fig hcI hd
       have eh : IntKind.i64.wrap ((W.length : Int) + 1) = (((W ++ [b[i]]).length : Nat) : Int) := by rw [wi64 (by omega) (by omega)]; simp
       repeat ((first | refine Br.y1 ?_ | refine Br.n1 ?_); conv => whnf)
       by_cases h30 : 30 ≤ W.length
       · have q : decide (IntKind.i64.wrap ((W.length : Int) + 1) > 30) = true := decide_eq_true (by rw [wi64 (by omega) (by omega)]; omega)
         repeat (first | (refine Br.yes q ?_; conv => whnf) | ((first | refine Br.y1 ?_ | refine Br.n1 ?_); conv => whnf))
         refine hp.storeW (vs := Dc.zero.cells) rfl .d csx rfl rfl rfl ?_
         clear hp
         intro s hp _
         conv => whnf
         refine hp.loadA (l := Dc.zero.cells) .d rfl (by rfl) rfl rfl ?_
         conv => whnf
         exact ⟨hp.fr, by rw [show readB ng b = errD 2 from if_pos (f1 h30)]; rfl⟩
       · have q : decide (IntKind.i64.wrap ((W.length : Int) + 1) > 30) = false := decide_eq_false (by rw [wi64 (by omega) (by omega)]; omega)
         repeat (first | (refine Br.no q ?_; conv => whnf) | ((first | refine Br.y1 ?_ | refine Br.n1 ?_); conv => whnf))
         rw [List.append_nil] at hp
         refine Sm.ofW ?_
         conv => whnf
         exact ⟨(i + 1, W ++ [b[i]], [], false, κ5, v5), by (show b.length - (i + 1) < b.length - i); omega, subK_ok (by refine ⟨rfl, rfl, rfl, rfl, ?_, ?_, rfl, ?_, trivial⟩ <;> first | rfl | (refine congrArg (fun x => some (Value.int .i64 x)) ?_; first | exact eh | exact ei)), f2 (by omega), by (show Hp _ _ _ _ _); rw [List.append_nil]; exact hp.pik (by repeat (first | exact Pik.nil | exact Pik.refl _ | exact Rm.here | apply Rm.there | apply Pik.cons | apply Pik.skip))⟩
     | true =>
       obtain ⟨f1, f2⟩ := ok.figR hcI hd
       have eh : IntKind.i64.wrap ((R.length : Int) + 1) = (((R ++ [b[i]]).length : Nat) : Int) := by rw [wi64 (by omega) (by omega)]; simp
       have q0 : decide ((W.length : Int) > 30) = false := decide_eq_false (by omega)
       by_cases h9 : 9 ≤ R.length
       · have q : decide (IntKind.i64.wrap ((R.length : Int) + 1) > 9) = true := decide_eq_true (by rw [wi64 (by omega) (by omega)]; omega)
         repeat (first | (refine Br.no q0 ?_; conv => whnf) | (refine Br.yes q ?_; conv => whnf) | ((first | refine Br.y1 ?_ | refine Br.n1 ?_); conv => whnf))
         refine hp.storeW (vs := Dc.zero.cells) rfl .d csx rfl rfl rfl ?_
         clear hp
         intro s hp _
         conv => whnf
         refine hp.loadA (l := Dc.zero.cells) .d rfl (by rfl) rfl rfl ?_
         conv => whnf
         exact ⟨hp.fr, by rw [show readB ng b = errD 2 from if_pos (f1 h9)]; rfl⟩
       · have q : decide (IntKind.i64.wrap ((R.length : Int) + 1) > 9) = false := decide_eq_false (by rw [wi64 (by omega) (by omega)]; omega)
         repeat (first | (refine Br.no q0 ?_; conv => whnf) | (refine Br.no q ?_; conv => whnf) | ((first | refine Br.y1 ?_ | refine Br.n1 ?_); conv => whnf))
         refine Sm.ofW ?_
         conv => whnf
         exact ⟨(i + 1, W, R ++ [b[i]], true, κ5, v5), by (show b.length - (i + 1) < b.length - i); omega, subK_ok (by refine ⟨rfl, rfl, rfl, rfl, ?_, ?_, rfl, ?_, trivial⟩ <;> first | rfl | (refine congrArg (fun x => some (Value.int .i64 x)) ?_; first | exact eh | exact ei)), f2 (by omega), by (show Hp _ _ _ _ _); rw [← List.append_assoc]; exact hp.pik (by repeat (first | exact Pik.nil | exact Pik.refl _ | exact Rm.here | apply Rm.there | apply Pik.cons | apply Pik.skip))⟩
   | false =>
     repeat ((first | refine Br.y1 ?_ | refine Br.n1 ?_); conv => whnf)
     refine Om.of _ (str_index Tryz.underlying9 (l := b) (i := i) hcI .i64) ?_
     conv => whnf
     by_cases hx : b[i] = 46
     · have q : (((b[i].toNat : Nat) : Int) == 46) = true := by rw [hx]; rfl
       cases pt with
       | true =>
         repeat (first | (refine Br.yes q ?_; conv => whnf) | ((first | refine Br.y1 ?_ | refine Br.n1 ?_); conv => whnf))
         refine hp.storeW (vs := Dc.zero.cells) rfl .d csx rfl rfl rfl ?_
         clear hp
         intro s hp _
         conv => whnf
         refine hp.loadA (l := Dc.zero.cells) .d rfl (by rfl) rfl rfl ?_
         conv => whnf
         exact ⟨hp.fr, by rw [show readB ng b = errD 2 from if_pos (ok.bad hcI hd (.inl rfl))]; rfl⟩
       | false =>
         obtain rfl := ok.off rfl
         obtain ⟨f1, f2⟩ := ok.dot hcI hx
         by_cases hW : W = []
         · subst hW
           repeat (first | (refine Br.yes q ?_; conv => whnf) | ((first | refine Br.y1 ?_ | refine Br.n1 ?_); conv => whnf))
           refine hp.storeW (vs := Dc.zero.cells) rfl .d csx rfl rfl rfl ?_
           clear hp
           intro s hp _
           conv => whnf
           refine hp.loadA (l := Dc.zero.cells) .d rfl (by rfl) rfl rfl ?_
           conv => whnf
           exact ⟨hp.fr, by rw [show readB ng b = errD 2 from if_pos (f1 rfl)]; rfl⟩
         · have hWl : 0 < W.length := List.length_pos_iff.2 hW
           have q2 : decide ((W.length : Int) > 0) = true := decide_eq_true (by omega)
           repeat (first | (refine Br.yes q ?_; conv => whnf) | (refine Br.yes q2 ?_; conv => whnf) | ((first | refine Br.y1 ?_ | refine Br.n1 ?_); conv => whnf))
           have eh : (0 : Int) = 0 := rfl
           refine Sm.ofW ?_
           conv => whnf
           exact ⟨(i + 1, W, [], true, κ, .slice aR (nL (W ++ [])).length cR), by (show b.length - (i + 1) < b.length - i); omega, subK_ok (by refine ⟨rfl, rfl, rfl, rfl, ?_, ?_, rfl, ?_, trivial⟩ <;> first | rfl | (refine congrArg (fun x => some (Value.int .i64 x)) ?_; first | exact eh | exact ei)), f2 hW, hp.pik (by repeat (first | exact Pik.nil | exact Pik.refl _ | exact Rm.here | apply Rm.there | apply Pik.cons | apply Pik.skip))⟩
     · have q : (((b[i].toNat : Nat) : Int) == 46) = false := beq_eq_false_iff_ne.2 (fun e => hx (UInt8.toNat_inj.1 (by show b[i].toNat = 46; omega)))
       repeat (first | (refine Br.no q ?_; conv => whnf) | ((first | refine Br.y1 ?_ | refine Br.n1 ?_); conv => whnf))
       refine hp.storeW (vs := Dc.zero.cells) rfl .d csx rfl rfl rfl ?_
       clear hp
       intro s hp _
       conv => whnf
       refine hp.loadA (l := Dc.zero.cells) .d rfl (by rfl) rfl rfl ?_
       conv => whnf
       exact ⟨hp.fr, by rw [show readB ng b = errD 2 from if_pos (ok.bad hcI hd (.inr hx))]; rfl⟩
 · have hc : ¬ i < b.length := by have h : ¬ (i : Int) < (b.length : Int) := of_decide_eq_false hc; omega
   obtain rfl : i = b.length := by omega
   have hfin := ok.fin ng
   have hnl : (nL (W ++ R)).length ≤ 39 := by rw [nL_len, List.length_append]; omega
   have hall : ∀ x ∈ W ++ R, isD x = true := fun x hx => by
    rcases List.mem_append.1 hx with g | g
    · exact ok.dW x g
    · exact ok.dR x g
   obtain ⟨t1, t2, t3⟩ := trim_ok _ (nL (W ++ R)) rfl (nL_lt hall)
   rw [Vd_nL] at t2
   conv => whnf
   refine Sm.seqW ?_
   conv => whnf
   refine (trim_spec _ (hp.okF (slA κ v 1 (nL (W ++ R)).length (natI (nL (W ++ R)))) (by simp)) (by omega)).mono ?_
   rintro v6 s6 ⟨rfl, hr6⟩
   obtain ⟨a6, c6, rfl⟩ := hr6.shape
   generalize hT : trimL (nL (W ++ R)) = T at *
   have hz := t1.zero
   rw [t2] at hz
   conv => whnf
   refine Sm.live [2, 4, 5, 6, 7, 8] ?_
   conv => whnf
   refine Sm.seq ?_
   refine Sm.seqC (fun e L' s'' => e = .normal ∧ s'' = s6 ∧ Sub [(2, .pointer (some ⟨p2, 0, none⟩)), (4, .bool ng), (5, .slice a6 T.length c6), (7, .int .i64 ((R.length : Nat) : Int)), (90, .bool (decide (W = [] ∨ (pt = true ∧ R = []) ∨ (ng = true ∧ valD (W ++ R) = 0))))] L') ?_ ?_
   · have key : ∀ bb : Bool, (bb = true ↔ (W.length = 0 ∨ (pt = true ∧ R.length = 0) ∨ (ng = true ∧ T.length = 0))) → bb = decide (W = [] ∨ (pt = true ∧ R = []) ∨ (ng = true ∧ valD (W ++ R) = 0)) := fun bb hbb => by
      rw [Bool.eq_iff_iff, hbb, decide_eq_true_iff, List.length_eq_zero_iff, List.length_eq_zero_iff, hz]
     clear hfin hz hnl hr9 hw30 hp hr6 t1 t2 t3 ok hT
     conv => whnf
     repeat' (first | (refine Br.yes (by first | with_reducible rfl | with_reducible assumption) ?_; conv => whnf) | (refine Br.no (by first | with_reducible rfl | with_reducible assumption) ?_; conv => whnf) | (refine Br.mk (fun hq => ?_) (fun hq => ?_) <;> conv => whnf))
     all_goals refine ⟨rfl, rfl, subK_ok ⟨rfl, rfl, rfl, rfl, congrArg (fun x => some (Value.bool x)) (key _ ?_), trivial⟩⟩
     all_goals (clear key; cases pt <;> cases ng <;> simp [-List.length_eq_zero_iff] at * <;> omega)
   rintro e L' s' ⟨rfl, rfl, hs⟩
   refine Sm.weak _ hs ?_
   clear hs
   refine Sm.ofW ?_
   conv => whnf
   refine Br.mk (fun hc => ?_) (fun hc => ?_)
   · have hc := of_decide_eq_true hc
     rw [if_pos hc] at hfin
     conv => whnf
     refine hp.storeW (vs := Dc.zero.cells) rfl .d csx rfl rfl rfl ?_
     clear hp
     intro s hp _
     conv => whnf
     refine hp.loadA (l := Dc.zero.cells) .d rfl (by rfl) rfl rfl ?_
     conv => whnf
     exact ⟨hp.fr, by rw [hfin]; rfl⟩
   · have hc := of_decide_eq_false hc
     rw [if_neg hc] at hfin
     conv => whnf
     refine Sm.seqW ?_
     conv => whnf
     refine hp.call (make_spec hp.wf ng (l := T) hr6 t1 (by omega) ((R.length : Nat) : Int)) ?_
     clear hp
     rintro _ s rfl hp _
     conv => whnf
     rw [makeF_ok (by omega) (by omega), t2, ← hfin]
     obtain ⟨r, re, hx⟩ := dmade_shape ng (valD (W ++ R)) ((R.length : Nat) : Int)
     rw [← hfin] at hx
     rw [hx]
     conv => whnf
     refine hp.storeW (vs := r.cells) rfl .d csx rfl rfl rfl ?_
     clear hp
     intro s hp _
     conv => whnf
     refine Sm.ofW ?_
     conv => whnf
     refine hp.loadA (l := r.cells) .d rfl (by rfl) rfl rfl ?_
     conv => whnf
     exact ⟨hp.fr, rfl⟩
end

/- Labels: bits, Below, Join, Meet, Right, Of. No condition. -/
section
variable [Lk]
structure Lb where
 set : Nat
 lev : Int
abbrev Lb.cells (a : Lb) : List Value := [.int .u64 (a.set : Int), .int .i64 a.lev]
theorem IL : SlT Tryz.prog 22 3 1 8 (.int .i64 0) := ⟨Tryz.underlying22, ⟨_, rfl, rfl, rfl, rfl⟩, rfl, rfl, by decide, by decide⟩
end

/- Labels, as the document has them. No condition. -/
section
variable [Lk]
end

/- The builder of texts: its memory, what is written to it. No condition. -/
section
variable [Lk]
structure Buf (s : St) (κ : Option Nat) (v : Value) (l : List UInt8) (t : Nat) : Prop where
 ex : (v = .slice none 0 0 ∧ l = [] ∧ κ = none) ∨ ∃ k b, κ = some k ∧ v = .slice (some ⟨b, 0, none⟩) l.length l.length ∧ Blk s k b (byteVals l) 1 ∧ Blt s k (byteVals l) 1 t ∧ l ≠ []
def bufA (κ : Option Nat) (v : Value) (l : List UInt8) (t : Nat) : At where
 foot := fun j => κ = some j
 ok := fun s => Buf s κ v l t
 keep := fun _ _ _ hk hX h => by
  rcases h.ex with g | ⟨k, b, g1, g2, g3, g4⟩
  · exact ⟨.inl g⟩
  · exact ⟨.inr ⟨k, b, g1, g2, hk.blk _ _ _ _ (hX k g1) g3, hk.blt _ _ _ _ (hX k g1) g4.1, g4.2⟩⟩
 lt := fun s wf h j hj => by
  rcases h.ex with g | ⟨k, b, g1, g2, g3, g4⟩
  · rw [g.2.2] at hj; cases hj
  · rw [g1] at hj; injection hj with hj; subst hj; exact g4.1.lt wf
 lo := fun s m h => by
  rcases h.ex with g | ⟨k, b, g1, g2, g3, g4⟩
  · exact ⟨.inl g⟩
  · exact ⟨.inr ⟨k, b, g1, g2, g3.lo m, g4.1.lo m, g4.2⟩⟩
theorem UB : SlT Tryz.prog 59 5 1 1 (.int .u8 0) := ⟨Tryz.underlying59, ⟨_, rfl, rfl, rfl, rfl⟩, rfl, rfl, by decide, by decide⟩
section
variable {X : Nat → Prop} {s0 s : St} {R F G : List At} {P : Program} {t : TypeId} {b off e : Nat} {C : List Value} {v : Value} {i : TypeInfo}
theorem Hp.storeT {K : St → Prop} (h : Hp X s0 R F s) {ty : Nat} (m : Rm (tyA b C e ty) F G) (ho : off < C.length) (hi : P.info? t = some i) (hs : i.size = 1) (hc : v.cells = #[v]) (h1 : v.oneCell' = true)
  (hk : ∀ s', Hp X s0 R (tyA b (C.set off v) e ty :: G) s' → s'.low < s.next → K s') : Om (evStore P t (.pointer (some ⟨b, off, none⟩)) v s) K := by
 have hb : Bty s b C e ty := h.okF _ m.sub.1
 obtain ⟨s', g1, g2, g3, g4⟩ := write_kp (off := off) (vs := [v]) h.wf hb.blk (by simp only [List.length_singleton]; omega)
 have g5 := write_blt hb.blt hb.blk g1
 rw [putAt_one v ho] at g3 g5
 refine .of s' ?_ (hk s' (h.upd m g2 (fun j hj => .inl hj) ⟨g3, g5⟩ (fun j hj => .inl hj)) (write_low h.wf hb.blk g1).1)
 simp only [evStore, hi, hc, hs]
 simpa [h1] using g1
end
theorem noEsc (s : St) (v : Value) {K : Value → St → Prop} (k : K v s) : Cw Tryz.prog 154 [v] s K :=
 ⟨⟨v, s, k, .inr (.inl ⟨rfl, _, Tryz.func154, rfl, rfl⟩)⟩⟩
theorem copyCheck_spec {z : St} (wf : WF z) {p : Nat} {a : Option Addr} {v : Value} (hb : Bty z p [.pointer a, v] 2 158) (ha : a = none ∨ a = some ⟨p, 0, none⟩) :
  Cw Tryz.prog 135 [.pointer (some ⟨p, 0, none⟩)] z fun r s' => Kp (fun j => j = p) z s' ∧ Bty s' p [.pointer (some ⟨p, 0, none⟩), v] 2 158 ∧ True := by
 have hp : Hp (fun j => j = p) z [] [tyA p [.pointer a, v] 2 158] z := ⟨.refl wf, fun x h => by obtain rfl := List.mem_singleton.1 h; exact hb, fun x h => (by cases h), fun x h k hk => by obtain rfl := List.mem_singleton.1 h; exact .inl hk, List.pairwise_singleton _ _, fun x _ r hr => (by cases hr)⟩
 refine Cw.enterS Tryz.func135 rfl rfl ?_
 refine Sm.seqW ?_
 conv => whnf
 (refine hp.loadT .d (v := .pointer a) (by rfl) rfl rfl rfl ?_; conv => whnf)
 rcases ha with rfl | rfl
 · refine Om.of _ (ptr_none Tryz.underlying156) ?_
   conv => whnf
   repeat ((first | refine Br.y1 ?_ | refine Br.n1 ?_); conv => whnf)
   refine Sm.live [0, 6] ?_
   conv => whnf
   refine Sm.ofW ?_
   conv => whnf
   repeat ((first | refine Br.y1 ?_ | refine Br.n1 ?_); conv => whnf)
   have hb2 : Bty z p [.pointer none, v] 2 158 := hp.okF (tyA p [.pointer none, v] 2 158) (by simp)
   refine Om.of _ (to_unsafe Tryz.underlying156 Tryz.underlying204 rfl (by decide) hb2.blk.rd (by show 0 < 2; decide)) ?_
   conv => whnf
   refine noEsc _ _ ?_
   conv => whnf
   refine Om.of _ (of_unsafe Tryz.underlying204 Tryz.underlying156 rfl (by decide) hb2 (by show 2 ≤ 2; decide)) ?_
   conv => whnf
   refine hp.storeT .d (by show 0 < 2; decide) rfl rfl rfl rfl ?_
   clear hp
   intro s hp _
   conv => whnf
   exact ⟨hp.fr, hp.okF _ (List.mem_cons_self ..), trivial⟩
 · refine Om.of _ (ptr_some Tryz.underlying156 _) ?_
   conv => whnf
   repeat ((first | refine Br.y1 ?_ | refine Br.n1 ?_); conv => whnf)
   refine Sm.live [0, 6] ?_
   conv => whnf
   refine Sm.ofW ?_
   conv => whnf
   repeat ((first | refine Br.y1 ?_ | refine Br.n1 ?_); conv => whnf)
   (refine hp.loadT .d (v := .pointer (some ⟨p, 0, none⟩)) (by rfl) rfl rfl rfl ?_; conv => whnf)
   refine Om.of _ (ptr_eq Tryz.underlying156 rfl _) ?_
   conv => whnf
   repeat ((first | refine Br.y1 ?_ | refine Br.n1 ?_); conv => whnf)
   exact ⟨hp.fr, hp.okF _ (List.mem_cons_self ..), trivial⟩
end

/- Itoa of a digit. No condition. -/
section
variable [Lk]
def dgt (n : Nat) : UInt8 := UInt8.ofNat (48 + n)
theorem digs36 : ∀ n, n < 10 → ((([48, 49, 50, 51, 52, 53, 54, 55, 56, 57, 97, 98, 99, 100, 101, 102, 103, 104, 105, 106, 107, 108, 109, 110, 111, 112, 113, 114, 115, 116, 117, 118, 119, 120, 121, 122] : List UInt8).drop n).take (n + 1 - n)) = [dgt n] := by decide +kernel
theorem ismall_spec (s : St) {n : Nat} (hn : n < 10) : Cw Tryz.prog 150 [.int .i64 (n : Int)] s fun r s' => s' = s ∧ r = sv [dgt n] := by
 refine Cw.enterS Tryz.func150 rfl rfl ?_
 refine Sm.seqW ?_
 conv => whnf
 refine Sm.live [0, 2] ?_
 conv => whnf
 refine Sm.seq ?_
 refine Sm.seqW ?_
 conv => whnf
 refine Sm.ofW ?_
 conv => whnf
 refine Br.yes (decide_eq_true (by omega)) ?_
 conv => whnf
 have e : IntKind.i64.wrap ((n : Int) + 1) = ((n + 1 : Nat) : Int) := by rw [wi64 (by omega) (by omega)]; omega
 rw [e]
 refine Om.of _ (str_slice Tryz.underlying9 (l := [48, 49, 50, 51, 52, 53, 54, 55, 56, 57, 97, 98, 99, 100, 101, 102, 103, 104, 105, 106, 107, 108, 109, 110, 111, 112, 113, 114, 115, 116, 117, 118, 119, 120, 121, 122]) .i64 .i64 (some n) (some (n + 1)) (by simp only [Option.getD_some]; omega) (by simp only [Option.getD_some, List.length_cons, List.length_nil]; omega)) ?_
 conv => whnf
 exact ⟨rfl, congrArg sv (digs36 n hn)⟩
end

/- Print of a label. No condition. -/
section
variable [Lk]
section
variable {X : Nat → Prop} {s0 s : St} {R F G : List At} {p : Nat} {κ : Option Nat} {l : List UInt8}
end
end

/- Clone; the errors of Atoi. No condition. -/
section
variable [Lk]
section
variable {X : Nat → Prop} {s0 s : St} {R F G : List At} {P : Program} {t : TypeId} {b : Nat} {C : List Value}
theorem Hp.copyT {K : Value × St → Prop} (h : Hp X s0 R F s) {et by_ ty : Nat} {z : Value} (T : SlT P t et 1 by_ z) (m : Rm (tyA b C 1 ty) F G) (l : List UInt8) (hC : C.length = l.length)
  (hk : ∀ s', Hp X s0 R (tyA b (byteVals l) 1 ty :: G) s' → K (.int .i64 (l.length : Int), s')) : Om (evCopy P t (.slice (some ⟨b, 0, none⟩) l.length l.length) (sv l) s) K := by
 obtain ⟨i, hi1, hi2, hi3, hi4⟩ := T.hi
 have hb : Bty s b C 1 ty := h.okF _ m.sub.1
 obtain ⟨s', g1, g2, g3, g4⟩ := write_kp (off := 0) (vs := byteVals l) h.wf hb.blk (by rw [byteVals_length]; omega)
 have g5 := write_blt hb.blt hb.blk g1
 have e : putAt C 0 (byteVals l) = byteVals l := by
  unfold putAt
  rw [List.take_zero, List.nil_append, Nat.zero_add, byteVals_length, ← hC, List.drop_length, List.append_nil]
 rw [e] at g3 g5
 have hf : firstOf s 1 (Nat.min l.length l.length) (sv l) = some (byteVals l) := by
  show some (byteVals (l.take (Nat.min l.length l.length))) = _
  rw [show Nat.min l.length l.length = l.length from Nat.min_self _, List.take_length]
 have hmin : Nat.min l.length l.length = l.length := Nat.min_self _
 cases hl : byteVals l with
 | nil =>
   have hl0 : l = [] := by
    have := congrArg List.length hl; rw [byteVals_length] at this; simpa using this
   refine .of (.int .i64 (l.length : Int), s) ?_ (hk s ?_)
   · simp only [evCopy, T.hu, hi1, hi2, bs_mk, hf, hl]
     rw [hmin]
   · have hC0 : C = [] := List.length_eq_zero_iff.1 (by rw [hC, hl0]; rfl)
     rw [hl, ← hC0]
     exact h.upd (Y := fun _ => False) m (.refl h.wf) (fun j hj => hj.elim) hb (fun j hj => .inl hj)
 | cons w ws =>
   refine .of (.int .i64 (l.length : Int), s') ?_ (hk s' (h.upd m g2 (fun j hj => .inl hj) ⟨g3, g5⟩ (fun j hj => .inl hj)))
   have h1 := byteVals_one l
   rw [hl] at h1 g1
   simp only [evCopy, T.hu, hi1, hi2, bs_mk, hf, hl, h1, g1]
   rw [hmin]
end
theorem clone_spec {z : St} (wf : WF z) (l : List UInt8) (hl : l.length ≤ 281474976710656) : Cw Tryz.prog 187 [sv l] z fun r s' => K0 z s' ∧ r = sv l := by
 have hp : Hp (fun _ => False) z [] [] z := Hp.start _ wf _ (by simp)
 refine Cw.enterS Tryz.func187 rfl rfl ?_
 refine Sm.seqW ?_
 conv => whnf
 refine Sm.live [0, 2] ?_
 conv => whnf
 refine Sm.seq ?_
 refine Sm.seqW ?_
 conv => whnf
 refine Sm.ofW ?_
 conv => whnf
 have e0 : ((((bs ⟨l.toArray⟩).length : Nat) : Int) == 0) = decide (l = []) := by
  show (((l.length : Nat) : Int) == 0) = _
  rw [Bool.eq_iff_iff, beq_iff_eq, decide_eq_true_iff, ← List.length_eq_zero_iff]; omega
 rw [e0]
 by_cases h0 : l = []
 · refine Br.yes (decide_eq_true h0) ?_
   conv => whnf
   exact ⟨hp.fr, congrArg sv h0.symm⟩
 refine Br.no (decide_eq_false h0) ?_
 conv => whnf
 refine Sm.seqW ?_
 conv => whnf
 refine hp.mksT UB rfl l.length rfl rfl (by omega) ?_
 clear hp
 intro b s hp _
 conv => whnf
 refine Sm.live [0, 3] ?_
 conv => whnf
 refine Sm.seqW ?_
 conv => whnf
 refine hp.copyT UB .d l (by simp) ?_
 clear hp
 intro s hp
 conv => whnf
 refine Sm.live [0, 3] ?_
 conv => whnf
 refine Sm.seqW ?_
 conv => whnf
 obtain ⟨m, hm⟩ : ∃ m, l.length = m + 1 := ⟨l.length - 1, by have := List.length_pos_iff.2 h0; omega⟩
 refine Om.of (.pointer (some ⟨b, 0, none⟩)) (by rw [hm]; rfl) ?_
 conv => whnf
 have hB : Bty s b (byteVals l) 1 5 := hp.okF _ (List.mem_cons_self ..)
 obtain ⟨s', u1, u2⟩ := unsafe_str (it := 3) Tryz.underlying189 (i := _) (rfl : Tryz.prog.info? 5 = some _) rfl hp.wf hB.blk hB.blt h0 (by omega)
 refine Om.of _ u1 ?_
 have g2 : K0 z s' := hp.fr.trans u2 fun j hj => .inr (by
  rcases hp.own _ (List.mem_cons_self ..) j hj with g | g
  · exact g.elim
  · exact g)
 conv => whnf
 refine Sm.ofW ?_
 conv => whnf
 exact ⟨g2, rfl⟩
structure Gs (s : St) : Prop where
 ex : ∃ i j, Lk.gl 4 = some i ∧ Lk.gl 5 = some j ∧ Ro s i [.chan none] 1 ∧ Ro s j [.chan none] 1
theorem Gs.keep {X : Nat → Prop} {s s' : St} (h : Gs s) (k : Kp X s s') : Gs s' := by
 obtain ⟨i, j, h1, h2, h3, h4⟩ := h.ex
 exact ⟨i, j, h1, h2, k.ro _ _ _ h3, k.ro _ _ _ h4⟩
theorem opl_gl {L : En} {g i : Nat} (h : Lk.gl g = some i) : opl L (.global g) = some (.pointer (some ⟨i, 0, none⟩)) := by
 show (match Lk.gl g with
  | some i => some (Value.pointer (some ⟨i, 0, none⟩))
  | none => none) = _
 rw [h]
theorem oplR_gl {l : List Tmp} {L : En} {g i : Nat} (h : Lk.gl g = some i) : oplR l L (.global g) = some (.pointer (some ⟨i, 0, none⟩)) := opl_gl (L := L) h
theorem syntaxError_spec {z : St} (wf : WF z) (hg : Gs z) (f l : List UInt8) (hl : l.length ≤ 281474976710656) : Cw Tryz.prog 166 [sv f, sv l] z fun r s' => K0 z s' ∧ True := by
 obtain ⟨i, j, h1, h2, h3, h4⟩ := hg.ex
 have hp : Hp (fun _ => False) z [roA i [.chan none] 1, roA j [.chan none] 1] [] z := Hp.start _ wf _ (by simp; exact ⟨h3, h4⟩)
 refine Cw.enterS Tryz.func166 rfl rfl ?_
 refine Sm.seqW ?_
 conv => whnf
 refine Sm.live [0, 1] ?_
 conv => whnf
 refine Sm.seqW ?_
 conv => whnf
 refine ⟨[0, 0, 2, 0, 15, 31, 63], by decide +kernel, by decide +kernel, ?_⟩
 conv => whnf
 refine hp.rst.call (clone_spec hp.rst.wf l hl) ?_
 rintro _ s1 rfl h1 k1
 conv => whnf
 refine hp.dkN h1 k1 ?_
 clear hp h1 k1
 intro s hp
 conv => whnf
 rw [oplR_gl h1]
 conv => whnf
 (refine hp.loadR (by first | exact HasR.here) (v := .chan none) (by rfl) rfl rfl rfl ?_; conv => whnf)
 refine hp.rst.var (cs := [sv f, sv l, .chan none]) (e := 3) rfl rfl ?_
 intro p s9 h9 k9
 conv => whnf
 refine hp.dkN h9 k9 ?_
 clear hp h9 k9
 intro s hp
 conv => whnf
 refine Sm.live [4] ?_
 conv => whnf
 refine Sm.ofW ?_
 conv => whnf
 exact ⟨hp.fr, trivial⟩
theorem rangeError_spec {z : St} (wf : WF z) (hg : Gs z) (f l : List UInt8) (hl : l.length ≤ 281474976710656) : Cw Tryz.prog 167 [sv f, sv l] z fun r s' => K0 z s' ∧ True := by
 obtain ⟨i, j, h1, h2, h3, h4⟩ := hg.ex
 have hp : Hp (fun _ => False) z [roA i [.chan none] 1, roA j [.chan none] 1] [] z := Hp.start _ wf _ (by simp; exact ⟨h3, h4⟩)
 refine Cw.enterS Tryz.func167 rfl rfl ?_
 refine Sm.seqW ?_
 conv => whnf
 refine Sm.live [0, 1] ?_
 conv => whnf
 refine Sm.seqW ?_
 conv => whnf
 refine ⟨[0, 0, 2, 0, 15, 31, 63], by decide +kernel, by decide +kernel, ?_⟩
 conv => whnf
 refine hp.rst.call (clone_spec hp.rst.wf l hl) ?_
 rintro _ s1 rfl h1 k1
 conv => whnf
 refine hp.dkN h1 k1 ?_
 clear hp h1 k1
 intro s hp
 conv => whnf
 rw [oplR_gl h2]
 conv => whnf
 (refine hp.loadR (by exact HasR.there HasR.here) (v := .chan none) (by rfl) rfl rfl rfl ?_; conv => whnf)
 refine hp.rst.var (cs := [sv f, sv l, .chan none]) (e := 3) rfl rfl ?_
 intro p s9 h9 k9
 conv => whnf
 refine hp.dkN h9 k9 ?_
 clear hp h9 k9
 intro s hp
 conv => whnf
 refine Sm.live [4] ?_
 conv => whnf
 refine Sm.ofW ?_
 conv => whnf
 exact ⟨hp.fr, trivial⟩
def erV (k : Int) : Value := .iface 213 (.int .i64 k)
end

/- From the two listed errors to the first state. No condition. -/
section
variable [Lk]
theorem var_heap {P : Program} {W : World} {n : String} {g : Nat} {v : Value} (hg : P.globalNamed n = some g) (h : W.var? P n = some #[v]) : ∃ t fr, W.heap[g]? = some (.cells #[v] t fr) := by
 unfold World.var? at h
 rw [hg] at h
 simp only [Option.bind_some] at h
 split at h
 · rename_i cs t fr hh
   injection h with h
   subst h
   exact ⟨t, fr, hh⟩
 · cases h
def gsB : List (List Value × Nat) := [([.chan none], 1), ([.chan none], 1)]
end

/- From slices among the arguments, and the two listed errors, to the first state. No condition. -/
section
variable [Lk]
abbrev lkS (k a b : Nat) : Lk := ⟨fun g => if g = a then some k else if g = b then some (k + 1) else none⟩
def betaS (k : Nat) (vs : List (Value × Nat)) (a b : Nat) : B := fun i => if i = k then some ⟨a, 0, 1, 1⟩ else if i = k + 1 then some ⟨b, 0, 1, 1⟩ else betaOf vs i
theorem hglS (k : Nat) (vs : List (Value × Nat)) (a b : Nat) : ∀ g i, (lkS k a b).gl g = some i → ∃ e l, betaS k vs a b i = some ⟨g, 0, e, l⟩ := by
 intro g i h
 unfold lkS at h
 simp only at h
 split at h
 · rename_i e
   injection h with h; subst h e
   exact ⟨1, 1, by unfold betaS; rw [if_pos rfl]⟩
 · split at h
   · rename_i _ e
     injection h with h; subst h e
     exact ⟨1, 1, by unfold betaS; rw [if_neg (by omega), if_pos rfl]⟩
   · cases h
theorem betaS_ok {W : World} {a b k : Nat} {vs : List (Value × Nat)} {bs : List (List Value × Nat)} (hk : bs.length = k) (hc : ∀ (i : Nat) (v : Value) (e : Nat), vs[i]? = some (v, e) → ∃ n cs, bs[i]? = some (cs, e) ∧ CArg W v e n cs)
  {ta tb tc td : TypeId} {fa fb : Nat × Nat} {va vb : Value} (ha : W.heap[a]? = some (.cells #[.iface ta va] tc fa)) (hb : W.heap[b]? = some (.cells #[.iface tb vb] td fb)) :
  ∀ i bi, betaS k vs a b i = some bi → ∃ cs e C t fr, (bs ++ gsB)[i]? = some (cs, e) ∧ bi.esz = e ∧ W.heap[bi.blk]? = some (.cells C t fr) ∧ ∀ (j : Nat) (v : Value), cs[j]? = some v → ∃ v', C[j + bi.sh]? = some v' ∧ VR (betaS k vs a b) v v' := by
 have one : ∀ (x : Value) (j : Nat) (v : Value), ([Value.chan none] : List Value)[j]? = some v → ∀ {t : TypeId}, ∃ v', (#[Value.iface t x] : Array Value)[j + 0]? = some v' ∧ VR (betaS k vs a b) v v' := by
  intro x j v h t
  cases j with
  | zero => injection h with h; subst h; exact ⟨_, rfl, .junkI _ _⟩
  | succ j => cases h
 intro i bi h
 unfold betaS at h
 split at h
 · rename_i e
   injection h with h; subst h e
   exact ⟨_, _, _, _, _, by rw [List.getElem?_append_right (by omega), ← hk, Nat.sub_self]; rfl, rfl, ha, fun j v hv => one _ j v hv⟩
 · split at h
   · rename_i _ e
     injection h with h; subst h e
     exact ⟨_, _, _, _, _, by rw [List.getElem?_append_right (by omega), ← hk, show bs.length + 1 - bs.length = 1 by omega]; rfl, rfl, hb, fun j v hv => one _ j v hv⟩
   · unfold betaOf at h
     cases hv : vs[i]? with
     | none => rw [hv] at h; cases h
     | some p =>
       obtain ⟨v, e⟩ := p
       rw [hv] at h
       simp only [Option.bind_some] at h
       obtain ⟨n, cs, h1, h2⟩ := hc i v e hv
       rcases h2.ex with ⟨rfl, _, _⟩ | ⟨a, cap, C, t, fr, rfl, h3, h4, h5, h6, h7⟩
       · cases h
       · simp only [biOf] at h
         injection h with h
         subst h
         have hlt : i < bs.length := by
          rcases Nat.lt_or_ge i bs.length with g | g
          · exact g
          · rw [List.getElem?_eq_none g] at h1; cases h1
         refine ⟨cs, e, C, t, fr, by rw [List.getElem?_append_left hlt]; exact h1, rfl, h6, fun i v hv => ⟨v, h7 i v hv, ?_⟩⟩
         exact closedV_VR _ 6 _ (h2.closed v (List.mem_of_getElem? hv))
end

/- lex.letter, digit, part, run; the document's digit. No condition. -/
section
variable [Lk]
end

/- Tokens without a program. No condition. -/
section
variable [Lk]
structure Tok where
 kind : Int
 text : List UInt8
 at_ : Nat
def Tok.cells (t : Tok) : List Value := [.int .i64 t.kind, sv t.text, .int .i64 (t.at_ : Int)]
def isS (c : UInt8) : Bool := decide (c = 40) || (decide (c = 41) || (decide (c = 61) || (decide (c = 60) || decide (c = 62))))
end

/- lex.one walked. No condition. -/
section
variable [Lk]
end

/- lex.Tokens walked. No condition. -/
section
variable [Lk]
end

/- The document's Tokens walked. No condition. -/
section
variable [Lk]
end

/- Tokens in memory; chapter 21's example. No condition. -/
section
variable [Lk]
theorem load_agg {P : Program} {t : TypeId} {fs : Array Field} {i : TypeInfo} (hu : P.underlying t = some (.struct fs)) (hi : P.info? t = some i) {s : St} {b off : Nat} {C cs : List Value} (hr : s.rd b = some C) (hs : sl C off i.size = some cs) :
  evLoad P t (.pointer (some ⟨b, off, none⟩)) s = some (.agg cs.toArray) := by
 unfold evLoad
 simp only [hr, hu, hi, hs]
theorem sl_sub {C cs : List Value} {off n i m : Nat} (h : Go.Ev.sl C off n = some cs) (hi : i + m ≤ n) : Go.Ev.sl C (off + i) m = some ((cs.drop i).take m) := by
 obtain ⟨g1, g2, g3, _⟩ := sl_some h
 have e : (List.drop (off + i) C).take m = (cs.drop i).take m := by
  rw [g2, List.drop_take, List.drop_drop, List.take_take, Nat.min_eq_left (by omega)]
 have hl : cs.length = n := by rw [g2]; simp; omega
 unfold Go.Ev.sl
 simp only [e]
 have : ((cs.drop i).take m).length = m := by simp; omega
 rw [this]; simp
theorem index_slN {P : Program} {t et sz by_ : Nat} {z : Value} (T : SlT P t et sz by_ z) {fs : Array Field} (hu : P.underlying et = some (.struct fs)) {s : St} {κ : Option Nat} {v : Value} {n i : Nat} {cs : List Value} (h : Sl s κ v sz n cs) (k : IntKind) (hi : i < n) :
  ∃ a, evIndexAddr P t v (.int k (i : Int)) = some (.pointer (some a)) ∧ evLoad P et (.pointer (some a)) s = some (.agg ((cs.drop (i * sz)).take sz).toArray) := by
 obtain ⟨j, hi1, hi2, hi3, hi4⟩ := T.hi
 rcases h.ex with ⟨rfl, rfl, rfl, rfl⟩ | ⟨b, off, c, C, rfl, hc, hl, hs, hm⟩
 · omega
 · have hr : s.rd b = some C := by
    rcases hm with ⟨k, _, hm⟩ | ⟨_, hm⟩
    · exact hm.rd
    · exact hm.rd
   have hle : i * sz + sz ≤ n * sz := by
    have : (i + 1) * sz ≤ n * sz := Nat.mul_le_mul_right _ hi
    rw [Nat.add_mul, Nat.one_mul] at this; exact this
   refine ⟨⟨b, off + i * sz, none⟩, ?_, load_agg hu hi1 hr (by rw [hi2]; exact sl_sub hs hle)⟩
   show (match P.underlying t, Value.slice (some ⟨b, off, none⟩) n c, Value.int k (.ofNat i) with
     | some (.slice e), .slice (some a) n _, .int _ (.ofNat i) => match Nat.blt i n, P.info? e with
       | true, some j => some (Value.pointer (some ⟨a.block, a.off + i * j.size, none⟩))
       | _, _ => none
     | some (.array n e), .pointer (some a), .int _ (.ofNat i) => match Nat.blt i n, P.info? e with
       | true, some j => some (Value.pointer (some ⟨a.block, a.off + i * j.size, none⟩))
       | _, _ => none
     | _, _, _ => none) = _
   rw [T.hu]
   simp only [blt_of hi, hi1, hi2]
end

/- Numbers of texts: ParseUint, ParseInt. No condition. -/
section
variable [Lk]
theorem ilower_spec (s : St) (c : UInt8) : Cw Tryz.prog 193 [.int .u8 ((c.toNat : Nat) : Int)] s fun r s' => s' = s ∧ ∃ d : Int, r = .int .u8 d := by
 refine Cw.enterS Tryz.func193 rfl rfl ?_
 refine Sm.seqW ?_
 conv => whnf
 refine Sm.seqW ?_
 conv => whnf
 refine Sm.ofW ?_
 conv => whnf
 exact ⟨rfl, _, rfl⟩
theorem u64_rng (x : Int) : 0 ≤ IntKind.u64.wrap x ∧ IntKind.u64.wrap x < 18446744073709551616 := by rw [wrap_u64i]; omega
structure NE (lo hi : Int) (k : IntKind) (r : Value) : Prop where
 ex : ∃ (n : Int) (e : Value), r = .tuple #[.int k n, e] ∧ lo ≤ n ∧ n < hi ∧ (e = .nilIface ∨ e = erV 1 ∨ e = erV 2)
theorem parseUint_spec {z : St} (wf : WF z) (l : List UInt8) (hl : l.length ≤ 281474976710656) :
  Cw Tryz.prog 186 [sv l, .int .i64 10, .int .i64 0] z fun r s' => K0 z s' ∧ NE 0 18446744073709551616 .u64 r := by
 have hp : Hp (fun _ => False) z [] [] z := Hp.start _ wf _ (by simp)
 refine Cw.enterS Tryz.func186 rfl rfl ?_
 refine Sm.seqW ?_
 conv => whnf
 refine Sm.live [0, 1, 2, 6, 7] ?_
 conv => whnf
 refine Sm.seq ?_
 refine Sm.seqW ?_
 conv => whnf
 refine Om.of _ (str_eq ⟨l.toArray⟩ _) ?_
 conv => whnf
 repeat ((first | refine Br.y1 ?_ | refine Br.n1 ?_); conv => whnf)
 refine Sm.ofW ?_
 conv => whnf
 have e0 : (bs ⟨l.toArray⟩ == bs { data := #[] }) = decide (l = []) := by
  show (l == ([] : List UInt8)) = _
  rw [Bool.eq_iff_iff, beq_iff_eq, decide_eq_true_iff]
 rw [e0]
 by_cases h0 : l = []
 · refine Br.yes (decide_eq_true h0) ?_
   conv => whnf
   exact ⟨hp.fr, ⟨_, _, rfl, by decide, by decide, .inr (.inr rfl)⟩⟩
 refine Br.no (decide_eq_false h0) ?_
 conv => whnf
 refine Sm.seqW ?_
 conv => whnf
 refine Sm.live [0, 1, 2, 8] ?_
 conv => whnf
 refine Sm.seqW ?_
 conv => whnf
 refine Sm.live [0, 1, 2, 8, 9] ?_
 conv => whnf
 refine Sm.seq ?_
 refine Sm.block ?_
 refine Sm.seqW ?_
 conv => whnf
 repeat ((first | refine Br.y1 ?_ | refine Br.n1 ?_); conv => whnf)
 refine Sm.ofW ?_
 conv => whnf
 repeat ((first | refine Br.y1 ?_ | refine Br.n1 ?_); conv => whnf)
 refine Sm.live [0, 1, 2, 8, 9] ?_
 conv => whnf
 refine Sm.seq ?_
 refine Sm.seqW ?_
 conv => whnf
 repeat ((first | refine Br.y1 ?_ | refine Br.n1 ?_); conv => whnf)
 refine Sm.ofW ?_
 conv => whnf
 repeat ((first | refine Br.y1 ?_ | refine Br.n1 ?_); conv => whnf)
 refine Sm.live [0, 1, 2, 8, 9] ?_
 conv => whnf
 refine Sm.seqW ?_
 conv => whnf
 refine Sm.live [0, 1, 2, 8, 9, 10] ?_
 conv => whnf
 refine Sm.seq ?_
 refine Sm.seqW ?_
 conv => whnf
 refine Sm.block ?_
 refine Sm.seqW ?_
 conv => whnf
 repeat ((first | refine Br.y1 ?_ | refine Br.n1 ?_); conv => whnf)
 refine Sm.ofW ?_
 conv => whnf
 repeat ((first | refine Br.y1 ?_ | refine Br.n1 ?_); conv => whnf)
 refine Sm.live [0, 1, 2, 8, 9, 10] ?_
 conv => whnf
 refine Sm.seqW ?_
 conv => whnf
 refine Om.of (.int .u64 0) (by kernel_rfl) ?_
 conv => whnf
 refine Sm.live [0, 1, 2, 8, 9, 10, 11] ?_
 conv => whnf
 refine Sm.seqW ?_
 conv => whnf
 refine Sm.live [0, 1, 2, 8, 9, 10, 11, 12] ?_
 conv => whnf
 refine Sm.seqW ?_
 conv => whnf
 refine Sm.live [0, 1, 2, 8, 9, 10, 11, 12, 13] ?_
 conv => whnf
 refine Sm.seq ?_
 refine Sm.seqW ?_
 conv => whnf
 refine hp.bytesOf Tryz.underlying9 Tryz.underlying59 Tryz.underlying5 ⟨l.toArray⟩ ?_
 clear hp
 intro b s hp _
 conv => whnf
 refine Sm.live [1, 8, 9, 10, 11, 12, 13, 99, 100, 101] ?_
 conv => whnf
 refine Sm.block ?_
 refine Sm.loop ?_
 refine Lp.ofS (α := Nat × Int) (fun x => [(1, .int .i64 10), (8, .bool false), (9, sv l), (10, .int .u64 1844674407370955162), (11, .int .u64 18446744073709551615), (12, .bool false), (13, .int .u64 x.2), (99, .slice (some ⟨b, 0, none⟩) l.length l.length), (100, .int .i64 ((l.length : Nat) : Int)), (101, .int .i64 (x.1 : Int))])
  (fun x s' => x.1 ≤ l.length ∧ (0 ≤ x.2 ∧ x.2 < 18446744073709551616) ∧ Hp (fun _ => False) z [] [blkA b b (byteVals l) 1] s') (fun x => l.length - x.1) ?_ (0, 0) (subK_ok (by refine ⟨rfl, rfl, rfl, rfl, rfl, rfl, rfl, rfl, rfl, rfl, trivial⟩)) ⟨Nat.zero_le _, ⟨Int.le_refl _, by decide⟩, hp⟩
 clear hp
 rintro ⟨i, n⟩ s ⟨hi, ⟨hn0, hn1⟩, hp⟩
 have hi : i ≤ l.length := hi
 have hn0 : 0 ≤ n := hn0
 have hn1 : n < 18446744073709551616 := hn1
 refine Sm.seqW ?_
 conv => whnf
 refine Sm.live [1, 8, 9, 10, 11, 12, 13, 99, 100, 101, 102] ?_
 conv => whnf
 refine Sm.seq ?_
 refine Sm.ofW ?_
 conv => whnf
 refine Br.mk (fun hq => ?_) (fun hq => ?_)
 · have hq : i < l.length := by have : (i : Int) < (l.length : Int) := of_decide_eq_true hq; omega
   obtain ⟨p, y, e1, e2, e3, _, rfl⟩ := index_sl UB Tryz.underlying5 rfl (hp.blkSl (n := l.length) .d (by rw [byteVals_length]; omega)) .i64 hq
   have e4 : y = .int .u8 ((l[i].toNat : Nat) : Int) := by
    unfold byteVals at e2
    rw [List.getElem?_map, List.getElem?_eq_getElem hq] at e2
    injection e2 with e2; exact e2.symm
   subst e4
   generalize hc : l[i] = c at *
   conv => whnf
   refine Sm.seq ?_
   refine Sm.block ?_
   refine Sm.seqW ?_
   conv => whnf
   refine Om.of _ (e1) ?_
   conv => whnf
   refine Om.of _ (e3) ?_
   conv => whnf
   refine Sm.live [1, 8, 9, 10, 11, 12, 13, 99, 100, 101, 15] ?_
   conv => whnf
   refine Sm.seqW ?_
   conv => whnf
   refine Sm.live [1, 8, 9, 10, 11, 12, 13, 99, 100, 101, 15, 16] ?_
   conv => whnf
   refine Sm.seq ?_
   refine Sm.block ?_
   refine Sm.seqC (fun e L' s' => e = .normal ∧ s' = s ∧ Sub [(1, .int .i64 10), (8, .bool false), (9, sv l), (10, .int .u64 1844674407370955162), (11, .int .u64 18446744073709551615), (12, .bool false), (13, .int .u64 n), (99, .slice (some ⟨b, 0, none⟩) l.length l.length), (100, .int .i64 ((l.length : Nat) : Int)), (101, .int .i64 (i : Int)), (15, .int .u8 ((c.toNat : Nat) : Int)), (106, .bool false)] L') ?_ ?_
   · conv => whnf
     repeat' (first | (refine Br.yes (by first | with_reducible rfl | with_reducible assumption) ?_; conv => whnf) | (refine Br.no (by first | with_reducible rfl | with_reducible assumption) ?_; conv => whnf) | (refine Br.mk (fun hq => ?_) (fun hq => ?_) <;> conv => whnf))
     all_goals exact ⟨rfl, rfl, subK_ok ⟨rfl, rfl, rfl, rfl, rfl, rfl, rfl, rfl, rfl, rfl, rfl, rfl, trivial⟩⟩
   rintro e L' s' ⟨rfl, rfl, hs⟩
   refine Sm.weak _ hs ?_
   clear hs
   refine Sm.ofW ?_
   conv => whnf
   repeat' (first
    | (refine Br.yes (by first | with_reducible rfl | with_reducible assumption) ?_; conv => whnf)
    | (refine Br.no (by first | with_reducible rfl | with_reducible assumption) ?_; conv => whnf)
    | (refine (ilower_spec _ c).mono ?_; rintro _ s1 ⟨h1, d, rfl⟩; obtain rfl := h1.symm; clear h1; conv => whnf)
    | (refine Br.mk (fun hq => ?_) (fun hq => ?_) <;> conv => whnf))
   all_goals first
    | exact ⟨hp.fr, ⟨_, _, rfl, by decide, by decide, .inr (.inr rfl)⟩⟩
    | skip
   all_goals
    refine Sm.live [1, 8, 9, 10, 11, 12, 13, 99, 100, 101, 16] ?_
    conv => whnf
    refine Sm.ofW ?_
    conv => whnf
    repeat' (first | (refine Br.yes (by first | with_reducible rfl | with_reducible assumption) ?_; conv => whnf) | (refine Br.no (by first | with_reducible rfl | with_reducible assumption) ?_; conv => whnf) | (refine Br.mk (fun hq => ?_) (fun hq => ?_) <;> conv => whnf))
   all_goals first
    | exact ⟨hp.fr, ⟨_, _, rfl, by decide, by decide, .inr (.inr rfl)⟩⟩
    | exact ⟨hp.fr, ⟨_, _, rfl, by decide, by decide, .inr (.inl rfl)⟩⟩
    | skip
   all_goals
    refine Sm.ofW ?_
    conv => whnf
    exact ⟨(i + 1, _), by (show l.length - (i + 1) < l.length - i); omega, subK_ok (by refine ⟨rfl, rfl, rfl, rfl, rfl, rfl, rfl, rfl, rfl, congrArg (fun x => some (Value.int .i64 x)) (show IntKind.i64.wrap ((i : Int) + 1) = ((i + 1 : Nat) : Int) by rw [wi64 (by omega) (by omega)]; omega), trivial⟩), by (show i + 1 ≤ l.length); omega, u64_rng _, hp⟩
 · conv => whnf
   refine Sm.ofW ?_
   conv => whnf
   repeat ((first | refine Br.y1 ?_ | refine Br.n1 ?_); conv => whnf)
   exact ⟨hp.fr, ⟨_, _, rfl, hn0, hn1, .inl rfl⟩⟩
end

/- Numbers of texts: ParseInt. No condition. -/
section
variable [Lk]
theorem i64_rng (x : Int) : -9223372036854775808 ≤ IntKind.i64.wrap x ∧ IntKind.i64.wrap x < 9223372036854775808 := by rw [wrap_i64i]; split <;> omega
theorem parseInt_spec {z : St} (wf : WF z) (l : List UInt8) (hl : l.length ≤ 281474976710656) :
  Cw Tryz.prog 165 [sv l, .int .i64 10, .int .i64 0] z fun r s' => K0 z s' ∧ NE (-9223372036854775808) 9223372036854775808 .i64 r := by
 have hp : Hp (fun _ => False) z [] [] z := Hp.start _ wf _ (by simp)
 refine Cw.enterS Tryz.func165 rfl rfl ?_
 refine Sm.seqW ?_
 conv => whnf
 refine Sm.live [0, 1, 2, 6, 7] ?_
 conv => whnf
 refine Sm.seq ?_
 refine Sm.seqW ?_
 conv => whnf
 refine Om.of _ (str_eq ⟨l.toArray⟩ _) ?_
 conv => whnf
 repeat ((first | refine Br.y1 ?_ | refine Br.n1 ?_); conv => whnf)
 refine Sm.ofW ?_
 conv => whnf
 have e0 : (bs ⟨l.toArray⟩ == bs { data := #[] }) = decide (l = []) := by
  show (l == ([] : List UInt8)) = _
  rw [Bool.eq_iff_iff, beq_iff_eq, decide_eq_true_iff]
 rw [e0]
 by_cases h0 : l = []
 · refine Br.yes (decide_eq_true h0) ?_
   conv => whnf
   exact ⟨hp.fr, ⟨_, _, rfl, by decide, by decide, .inr (.inr rfl)⟩⟩
 refine Br.no (decide_eq_false h0) ?_
 conv => whnf
 have hpos : 0 < l.length := List.length_pos_iff.2 h0
 refine Sm.seqW ?_
 conv => whnf
 refine Sm.live [0, 1, 2, 6, 7, 8] ?_
 conv => whnf
 refine Sm.seq ?_
 refine Sm.seqW ?_
 conv => whnf
 refine Om.of _ (str_index Tryz.underlying9 (l := l) (i := 0) hpos .i64) ?_
 conv => whnf
 refine Sm.live [0, 1, 2, 6, 7, 8, 16] ?_
 conv => whnf
 refine Sm.mono (Q := fun e L' s' => e = .normal ∧ s' = z ∧ ∃ (l' : List UInt8) (B : Bool), l'.length ≤ l.length ∧ Sub [(0, sv l'), (1, .int .i64 10), (2, .int .i64 0), (8, .bool B)] L') ?_ ?_
 · refine Sm.block ?_
   refine Sm.ofW ?_
   conv => whnf
   repeat' (first | (refine Br.yes (by first | with_reducible rfl | with_reducible assumption) ?_; conv => whnf) | (refine Br.no (by first | with_reducible rfl | with_reducible assumption) ?_; conv => whnf) | (refine Om.of _ (str_drop Tryz.underlying9 (l := l) .i64 (j := 1) hpos) ?_; conv => whnf) | (refine Br.mk (fun hq => ?_) (fun hq => ?_) <;> conv => whnf))
   all_goals exact ⟨rfl, rfl, _, _, by first | exact Nat.le_refl _ | (rw [List.length_drop]; omega), subK_ok ⟨rfl, rfl, rfl, rfl, trivial⟩⟩
 rintro e L' s' ⟨rfl, rfl, l', B, hl', hs⟩
 refine Sm.weak _ hs ?_
 clear hs
 refine Sm.seqW ?_
 conv => whnf
 refine Sm.live [0, 1, 2, 8, 9] ?_
 conv => whnf
 refine Sm.seqW ?_
 conv => whnf
 refine hp.call (parseUint_spec hp.wf l' (by omega)) ?_
 clear hp
 rintro _ s ⟨n, e, rfl, h1, h2, he⟩ hp _
 conv => whnf
 refine Sm.live [2, 7, 8, 9] ?_
 conv => whnf
 rcases he with rfl | rfl | rfl
 · refine Sm.seq ?_
   refine Sm.seqW ?_
   conv => whnf
   refine Om.of (.bool false) (by kernel_rfl) ?_
   conv => whnf
   repeat ((first | refine Br.y1 ?_ | refine Br.n1 ?_); conv => whnf)
   refine Sm.ofW ?_
   conv => whnf
   repeat ((first | refine Br.y1 ?_ | refine Br.n1 ?_); conv => whnf)
   refine Sm.live [2, 8, 9] ?_
   conv => whnf
   refine Sm.seq ?_
   refine Sm.seqW ?_
   conv => whnf
   repeat ((first | refine Br.y1 ?_ | refine Br.n1 ?_); conv => whnf)
   refine Sm.ofW ?_
   conv => whnf
   repeat ((first | refine Br.y1 ?_ | refine Br.n1 ?_); conv => whnf)
   refine Sm.live [2, 8, 9] ?_
   conv => whnf
   refine Sm.seqW ?_
   conv => whnf
   refine Om.of (.int .u64 9223372036854775808) (by kernel_rfl) ?_
   conv => whnf
   refine Sm.live [8, 9, 10] ?_
   conv => whnf
   cases B
   all_goals
    refine Sm.ofW ?_
    conv => whnf
    repeat' (first | (refine Br.yes (by first | with_reducible rfl | with_reducible assumption) ?_; conv => whnf) | (refine Br.no (by first | with_reducible rfl | with_reducible assumption) ?_; conv => whnf) | (refine Br.mk (fun hq => ?_) (fun hq => ?_) <;> conv => whnf))
   all_goals exact ⟨hp.fr, ⟨_, _, rfl, (i64_rng _).1, (i64_rng _).2, by first | exact .inl rfl | exact .inr (.inl rfl)⟩⟩
 · refine Sm.seq ?_
   refine Sm.seqW ?_
   conv => whnf
   refine Om.of (.bool true) (by kernel_rfl) ?_
   conv => whnf
   repeat ((first | refine Br.y1 ?_ | refine Br.n1 ?_); conv => whnf)
   refine Om.of (.bool false) (by kernel_rfl) ?_
   conv => whnf
   repeat ((first | refine Br.y1 ?_ | refine Br.n1 ?_); conv => whnf)
   refine Sm.ofW ?_
   conv => whnf
   repeat ((first | refine Br.y1 ?_ | refine Br.n1 ?_); conv => whnf)
   refine Sm.live [2, 8, 9] ?_
   conv => whnf
   refine Sm.seq ?_
   refine Sm.seqW ?_
   conv => whnf
   repeat ((first | refine Br.y1 ?_ | refine Br.n1 ?_); conv => whnf)
   refine Sm.ofW ?_
   conv => whnf
   repeat ((first | refine Br.y1 ?_ | refine Br.n1 ?_); conv => whnf)
   refine Sm.live [2, 8, 9] ?_
   conv => whnf
   refine Sm.seqW ?_
   conv => whnf
   refine Om.of (.int .u64 9223372036854775808) (by kernel_rfl) ?_
   conv => whnf
   refine Sm.live [8, 9, 10] ?_
   conv => whnf
   cases B
   all_goals
    refine Sm.ofW ?_
    conv => whnf
    repeat' (first | (refine Br.yes (by first | with_reducible rfl | with_reducible assumption) ?_; conv => whnf) | (refine Br.no (by first | with_reducible rfl | with_reducible assumption) ?_; conv => whnf) | (refine Br.mk (fun hq => ?_) (fun hq => ?_) <;> conv => whnf))
   all_goals exact ⟨hp.fr, ⟨_, _, rfl, (i64_rng _).1, (i64_rng _).2, by first | exact .inl rfl | exact .inr (.inl rfl)⟩⟩
 · refine Sm.seq ?_
   refine Sm.seqW ?_
   conv => whnf
   refine Om.of (.bool true) (by kernel_rfl) ?_
   conv => whnf
   repeat ((first | refine Br.y1 ?_ | refine Br.n1 ?_); conv => whnf)
   refine Om.of (.bool true) (by kernel_rfl) ?_
   conv => whnf
   repeat ((first | refine Br.y1 ?_ | refine Br.n1 ?_); conv => whnf)
   refine Sm.ofW ?_
   conv => whnf
   repeat ((first | refine Br.y1 ?_ | refine Br.n1 ?_); conv => whnf)
   exact ⟨hp.fr, ⟨_, _, rfl, by decide, by decide, .inr (.inr rfl)⟩⟩
end

/- Numbers of texts: Atoi. No condition. -/
section
variable [Lk]
theorem dgt_sub : ∀ k, k < 10 → IntKind.u8.wrap (((dgt k).toNat : Int) - 48) = (k : Int) := by decide +kernel
theorem dgt_sign : ∀ k, k < 10 → (dgt k).toNat ≠ 45 ∧ (dgt k).toNat ≠ 43 := by decide +kernel
end

/- Itoa of numbers of two digits. No condition. -/
section
variable [Lk]
def itoaF (n : Nat) : List UInt8 := if n < 10 then [dgt n] else [dgt (n / 10), dgt (n % 10)]
def tab2 : List UInt8 := (List.range 100).flatMap fun n => [dgt (n / 10), dgt (n % 10)]
theorem tab2_at : ∀ n, n < 100 → 10 ≤ n → ((tab2.drop (n * 2)).take (n * 2 + 2 - n * 2)) = [dgt (n / 10), dgt (n % 10)] := by decide +kernel
theorem tab2_len : tab2.length = 200 := by decide +kernel
theorem ismall2_spec (s : St) {n : Nat} (hn : n < 100) : Cw Tryz.prog 150 [.int .i64 (n : Int)] s fun r s' => s' = s ∧ r = sv (itoaF n) := by
 by_cases h : n < 10
 · rw [itoaF, if_pos h]; exact ismall_spec s h
 rw [itoaF, if_neg h]
 refine Cw.enterS Tryz.func150 rfl rfl ?_
 refine Sm.seqW ?_
 conv => whnf
 refine Sm.live [0, 2] ?_
 conv => whnf
 refine Sm.seq ?_
 refine Sm.seqW ?_
 conv => whnf
 refine Sm.ofW ?_
 conv => whnf
 refine Br.no (decide_eq_false (by omega)) ?_
 conv => whnf
 have e : IntKind.i64.wrap ((n : Int) * 2) = ((n * 2 : Nat) : Int) := by rw [wi64 (by omega) (by omega)]; omega
 have e2 : IntKind.i64.wrap (((n * 2 : Nat) : Int) + 2) = ((n * 2 + 2 : Nat) : Int) := by rw [wi64 (by omega) (by omega)]; omega
 refine Sm.seqW ?_
 conv => whnf
 rw [e, e2]
 refine Om.of _ (str_slice Tryz.underlying9 (l := tab2) .i64 .i64 (some (n * 2)) (some (n * 2 + 2)) (by simp only [Option.getD_some]; omega) (by rw [tab2_len]; simp only [Option.getD_some]; omega)) ?_
 conv => whnf
 refine Sm.ofW ?_
 conv => whnf
 exact ⟨rfl, congrArg sv (tab2_at n hn (by omega))⟩
theorem fmtInt2_spec (s : St) {n : Nat} (hn : n < 100) : Cw Tryz.prog 134 [.int .i64 (n : Int), .int .i64 10] s fun r s' => s' = s ∧ r = sv (itoaF n) := by
 refine Cw.enterS Tryz.func134 rfl rfl ?_
 refine Sm.seqW ?_
 conv => whnf
 refine Sm.live [0, 1, 4] ?_
 conv => whnf
 refine Sm.seq ?_
 refine Sm.seqW ?_
 conv => whnf
 refine Sm.ofW ?_
 conv => whnf
 have h1 : decide ((0 : Int) ≤ (n : Int)) = true := decide_eq_true (by omega)
 have h2 : decide ((n : Int) < 100) = true := decide_eq_true (by omega)
 repeat (first | (refine Br.yes h1 ?_; conv => whnf) | (refine Br.yes h2 ?_; conv => whnf) | ((first | refine Br.y1 ?_ | refine Br.n1 ?_); conv => whnf))
 refine (ismall2_spec _ hn).mono ?_
 rintro _ s1 ⟨h1, rfl⟩
 obtain rfl := h1.symm
 conv => whnf
 exact ⟨rfl, rfl⟩
theorem iitoa2_spec (s : St) {n : Nat} (hn : n < 100) : Cw Tryz.prog 107 [.int .i64 (n : Int)] s fun r s' => s' = s ∧ r = sv (itoaF n) := by
 refine Cw.enterS Tryz.func107 rfl rfl ?_
 refine Sm.seqW ?_
 conv => whnf
 refine Sm.seqW ?_
 conv => whnf
 refine (fmtInt2_spec _ hn).mono ?_
 rintro _ s1 ⟨h1, rfl⟩
 obtain rfl := h1.symm
 conv => whnf
 refine Sm.ofW ?_
 conv => whnf
 exact ⟨rfl, rfl⟩
theorem itoa2_spec (s : St) {n : Nat} (hn : n < 100) : Cw Tryz.prog 62 [.int .i64 (n : Int)] s fun r s' => s' = s ∧ r = sv (itoaF n) := by
 refine Cw.enterS Tryz.func62 rfl rfl ?_
 refine Sm.seqW ?_
 conv => whnf
 refine Sm.seqW ?_
 conv => whnf
 refine (iitoa2_spec _ hn).mono ?_
 rintro _ s1 ⟨h1, rfl⟩
 obtain rfl := h1.symm
 conv => whnf
 refine Sm.ofW ?_
 conv => whnf
 exact ⟨rfl, rfl⟩
end
end Go.Ev
