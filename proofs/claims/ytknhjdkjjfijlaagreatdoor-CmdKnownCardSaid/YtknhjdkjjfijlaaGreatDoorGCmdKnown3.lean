/- Several texts in one: what the law's text leans on, one behind the other. No condition but those that each theorem names. -/
import Derived.Test.YtknhjdkjjfijlaaGreatDoorGCmdKnown2
noncomputable section
namespace Go.Ev
open Go.Proofs
set_option linter.unusedVariables false
set_option linter.unusedSectionVars false
set_option maxRecDepth 100000
/- Itoa of numbers of three digits, or below nothing. No condition but that a listed table is as it is laid. -/
section
variable [Lk]
theorem slice_arrE {P : Program} {t n e : Nat} (hu : P.underlying t = some (.array n e)) {j : TypeInfo} (hin : P.info? e = some j) (hj : j.size = 1) {s : St} {k b : Nat} {l : List UInt8} (hb : Blk s k b (byteVals l) 1) (hn : l.length = n) (hn0 : 0 < n)
  {lo hi : Option Nat} (h1 : lo.getD 0 ≤ hi.getD n) (h2 : hi.getD n ≤ n) :
  evSliceMem P t (.pointer (some ⟨b, 0, none⟩)) (bndV .i64 lo) (bndV .i64 hi) none s = some (.slice (some ⟨b, lo.getD 0, none⟩) (hi.getD n - lo.getD 0) (n - lo.getD 0)) := by
 have hbd : bnds n n (bndV .i64 lo) (bndV .i64 hi) none = some (lo.getD 0, hi.getD n, n) := by
  unfold bnds
  cases lo <;> cases hi <;> simp only [bndV, Option.getD_none, Option.getD_some] at h1 h2 ⊢
  · rw [bnd_nat h2]
  · rw [bnd_nat h1]
  · rw [bnd_nat h2]; simp only; rw [bnd_nat h1]
 obtain ⟨base, fl, g1, g2, g3⟩ := hb.ex
 have e1 := hb.esz
 have e2 := hb.rd
 unfold evSliceMem
 rw [hu]
 simp only [hin, e1, e2, hj, Nat.beq_refl, Nat.mul_one, blt_of hn0, byteVals_length, Nat.zero_add, hn, Nat.ble_eq_true_of_le (Nat.le_refl n), g1, hbd]
theorem fmtW_spec {z : St} (wf : WF z) (hg : Gt z) {n : Int} (hn1 : -1000 < n) (hn2 : n < 1000) (hn3 : ¬ (0 ≤ n ∧ n < 100)) :
  Cw Tryz.prog 134 [.int .i64 n, .int .i64 10] z fun r s' => K0 z s' ∧ ∃ w : List UInt8, r = sv w ∧ w.length ≤ 24 := by
 have hp : Hp (fun _ => False) z [] [] z := Hp.start _ wf _ (by simp)
 obtain ⟨u, hu⟩ : ∃ u : Nat, n.natAbs = u := ⟨_, rfl⟩
 have hu1 : 1 ≤ u := by omega
 have hu2 : u < 1000 := by omega
 have hd3 : dig3 u ≤ 3 := by unfold dig3; split; omega; split <;> omega
 refine Cw.enterS Tryz.func134 rfl rfl ?_
 refine Sm.seqW ?_
 conv => whnf
 refine Sm.live [0, 1, 4] ?_
 conv => whnf
 refine Sm.seq ?_
 refine Sm.seqW ?_
 conv => whnf
 refine Sm.ofW ?_
 conv => whnf
 repeat ((first | refine Br.y1 ?_ | refine Br.n1 ?_); conv => whnf)
 by_cases h0 : 0 ≤ n
 · have q1 : decide ((0 : Int) ≤ n) = true := decide_eq_true h0
   have q2 : decide (n < 100) = false := decide_eq_false (by omega)
   have q3 : decide (n < 0) = false := decide_eq_false (by omega)
   repeat (first | (refine Br.yes q1 ?_; conv => whnf) | (refine Br.no q2 ?_; conv => whnf) | ((first | refine Br.y1 ?_ | refine Br.n1 ?_); conv => whnf))
   refine hp.alloc (cs := byteVals (List.replicate 24 0)) (e := 1) rfl rfl rfl rfl rfl ?_
   clear hp
   intro p5 s hp _
   conv => whnf
   repeat (first | (refine Br.no q3 ?_; conv => whnf) | ((first | refine Br.y1 ?_ | refine Br.n1 ?_); conv => whnf))
   have eu : IntKind.u64.wrap n = (u : Int) := by show n % 18446744073709551616 = _; omega
   rw [eu]
   refine (numDigits_spec (hg.keep hp.fr) hu1 hu2).mono ?_
   rintro _ s1 ⟨h1, rfl⟩
   obtain rfl := h1.symm
   conv => whnf
   have e1 : IntKind.i64.wrap (1 + ((dig3 u : Nat) : Int)) = ((dig3 u + 1 : Nat) : Int) := by rw [wi64 (by omega) (by omega)]; omega
   rw [e1]
   refine Om.of _ (slice_arrE (P := Tryz.prog) Tryz.underlying199 (by rfl) rfl (hp.blk (k := p5) (b := p5) .d) (l := List.replicate 24 0) rfl (by decide) (lo := some 1) (hi := some (dig3 u + 1)) (by simp only [Option.getD_some]; omega) (by simp only [Option.getD_some]; omega)) ?_
   conv => whnf
   refine fb10_spec (L := List.replicate 24 0) hp rfl .d hu1 hu2 ?_
   clear hp
   intro r L s hL hp
   conv => whnf
   repeat (first | (refine Br.no q3 ?_; conv => whnf) | ((first | refine Br.y1 ?_ | refine Br.n1 ?_); conv => whnf))
   rw [e1]
   obtain ⟨v1, g1, b1⟩ := slice_arr (P := Tryz.prog) Tryz.underlying199 (by rfl) rfl (hp.blk (k := p5) (b := p5) .d) hL (by decide) (lo := some 1) (hi := some (dig3 u + 1)) (by simp only [Option.getD_some]; omega) (by simp only [Option.getD_some]; omega)
   refine Om.of _ (g1) ?_
   conv => whnf
   refine Om.of _ (string_sl Tryz.underlying59 Tryz.underlying9 Tryz.underlying5 b1) ?_
   conv => whnf
   exact ⟨hp.fr, _, rfl, by rw [List.length_take, List.length_drop]; omega⟩
 · have q1 : decide ((0 : Int) ≤ n) = false := decide_eq_false h0
   have q3 : decide (n < 0) = true := decide_eq_true (by omega)
   repeat (first | (refine Br.no q1 ?_; conv => whnf) | ((first | refine Br.y1 ?_ | refine Br.n1 ?_); conv => whnf))
   refine hp.alloc (cs := byteVals (List.replicate 24 0)) (e := 1) rfl rfl rfl rfl rfl ?_
   clear hp
   intro p5 s hp _
   conv => whnf
   repeat (first | (refine Br.yes q3 ?_; conv => whnf) | ((first | refine Br.y1 ?_ | refine Br.n1 ?_); conv => whnf))
   have eu : IntKind.u64.wrap (0 - (IntKind.u64.wrap n)) = (u : Int) := by show (0 - (n % 18446744073709551616)) % 18446744073709551616 = _; omega
   rw [eu]
   refine (numDigits_spec (hg.keep hp.fr) hu1 hu2).mono ?_
   rintro _ s1 ⟨h1, rfl⟩
   obtain rfl := h1.symm
   conv => whnf
   have e1 : IntKind.i64.wrap (1 + ((dig3 u : Nat) : Int)) = ((dig3 u + 1 : Nat) : Int) := by rw [wi64 (by omega) (by omega)]; omega
   rw [e1]
   refine Om.of _ (slice_arrE (P := Tryz.prog) Tryz.underlying199 (by rfl) rfl (hp.blk (k := p5) (b := p5) .d) (l := List.replicate 24 0) rfl (by decide) (lo := some 1) (hi := some (dig3 u + 1)) (by simp only [Option.getD_some]; omega) (by simp only [Option.getD_some]; omega)) ?_
   conv => whnf
   refine fb10_spec (L := List.replicate 24 0) hp rfl .d hu1 hu2 ?_
   clear hp
   intro r L s hL hp
   conv => whnf
   repeat (first | (refine Br.yes q3 ?_; conv => whnf) | ((first | refine Br.y1 ?_ | refine Br.n1 ?_); conv => whnf))
   refine Om.of _ (ixA (P := Tryz.prog) (t := 199) (b := p5) (off := 0) (i := 0) Tryz.underlying199 (by rfl) rfl .i64 (by decide)) ?_
   conv => whnf
   refine hp.store (v := .int .u8 (((45 : UInt8).toNat : Nat) : Int)) (off := 0 + 0) .d (by show 0 < (byteVals L).length; simp [byteVals, hL]) rfl rfl rfl rfl ?_
   clear hp
   intro s hp _
   rw [byteVals_put] at hp
   have hL2 : (L.set (0 + 0) 45).length = 24 := by rw [List.length_set]; exact hL
   generalize L.set (0 + 0) 45 = L2 at *
   conv => whnf
   rw [e1]
   obtain ⟨v1, g1, b1⟩ := slice_arr (P := Tryz.prog) Tryz.underlying199 (by rfl) rfl (hp.blk (k := p5) (b := p5) .d) hL2 (by decide) (lo := none) (hi := some (dig3 u + 1)) (by simp only [Option.getD_some, Option.getD_none]; omega) (by simp only [Option.getD_some]; omega)
   refine Om.of _ (g1) ?_
   conv => whnf
   refine Om.of _ (string_sl Tryz.underlying59 Tryz.underlying9 Tryz.underlying5 b1) ?_
   conv => whnf
   exact ⟨hp.fr, _, rfl, by rw [List.length_take, List.length_drop]; omega⟩
theorem iitoaW_spec {z : St} (wf : WF z) (hg : Gt z) {n : Int} (hn1 : -1000 < n) (hn2 : n < 1000) (hn3 : ¬ (0 ≤ n ∧ n < 100)) :
  Cw Tryz.prog 107 [.int .i64 n] z fun r s' => K0 z s' ∧ ∃ w : List UInt8, r = sv w ∧ w.length ≤ 24 := by
 have hp : Hp (fun _ => False) z [] [] z := Hp.start _ wf _ (by simp)
 refine Cw.enterS Tryz.func107 rfl rfl ?_
 refine Sm.seqW ?_
 conv => whnf
 refine Sm.seqW ?_
 conv => whnf
 refine hp.call (fmtW_spec hp.wf hg hn1 hn2 hn3) ?_
 clear hp
 rintro _ s ⟨w, rfl, hw⟩ hp _
 conv => whnf
 refine Sm.ofW ?_
 conv => whnf
 exact ⟨hp.fr, w, rfl, hw⟩
theorem itoaW_spec {z : St} (wf : WF z) (hg : Gt z) {n : Int} (hn1 : -1000 < n) (hn2 : n < 1000) (hn3 : ¬ (0 ≤ n ∧ n < 100)) :
  Cw Tryz.prog 62 [.int .i64 n] z fun r s' => K0 z s' ∧ ∃ w : List UInt8, r = sv w ∧ w.length ≤ 24 := by
 have hp : Hp (fun _ => False) z [] [] z := Hp.start _ wf _ (by simp)
 refine Cw.enterS Tryz.func62 rfl rfl ?_
 refine Sm.seqW ?_
 conv => whnf
 refine Sm.seqW ?_
 conv => whnf
 refine hp.call (iitoaW_spec hp.wf hg hn1 hn2 hn3) ?_
 clear hp
 rintro _ s ⟨w, rfl, hw⟩ hp _
 conv => whnf
 refine Sm.ofW ?_
 conv => whnf
 exact ⟨hp.fr, w, rfl, hw⟩
theorem itoaA_spec {z : St} (wf : WF z) (hg : Gt z) {n : Int} (hn1 : -1000 < n) (hn2 : n < 1000) :
  Cw Tryz.prog 62 [.int .i64 n] z fun r s' => K0 z s' ∧ ∃ w : List UInt8, r = sv w ∧ w.length ≤ 24 ∧ (0 ≤ n → n < 100 → w = itoaF n.toNat) := by
 by_cases h : 0 ≤ n ∧ n < 100
 · obtain ⟨k, rfl⟩ : ∃ k : Nat, n = k := ⟨n.toNat, by omega⟩
   refine (itoa2_spec z (show k < 100 by omega)).mono fun r s' ⟨h1, h2⟩ => ?_
   have := itoa_le k
   exact ⟨by rw [h1]; exact .refl wf, _, h2, by omega, fun _ _ => rfl⟩
 · exact (itoaW_spec wf hg hn1 hn2 h).mono fun r s' ⟨h1, w, h2, h3⟩ => ⟨h1, w, h2, h3, fun g1 g2 => absurd ⟨g1, g2⟩ h⟩
end

/- Commands are printed. No condition but what each theorem names. -/
section
variable [Lk]
theorem slice_int3 {s : St} {k b : Nat} {C : List Value} (hb : Blk s k b C 1) {c : Nat} (hc : c ≤ 3) : evSliceMem Tryz.prog 22 (.slice (some ⟨b, 0, none⟩) 3 3) none (some (.int .i64 (c : Int))) none s = some (.slice (some ⟨b, 0, none⟩) c 3) := by
 obtain ⟨i, h1, h2, h3, h4⟩ := IL.hi
 unfold evSliceMem
 rw [IL.hu]
 simp only [h1, hb.esz, h2]
 have h : c = 0 ∨ c = 1 ∨ c = 2 ∨ c = 3 := by omega
 rcases h with rfl | rfl | rfl | rfl <;> rfl
def okW (x : Cm) (W : List (List UInt8)) : Prop := ∀ j, (h : j < W.length) → W[j].length ≤ 24 ∧ (0 ≤ [x.a, x.b, x.c].getD j 0 → [x.a, x.b, x.c].getD j 0 < 100 → W[j] = itoaF ([x.a, x.b, x.c].getD j 0).toNat)
def tailT (x : Cm) : List (List UInt8) := if x.v = 1 then [printL x.ls] else if x.v = 5 then [printF x.amt] else if x.v = 9 then [x.txt] else []
def outC (W : List (List UInt8)) (x : Cm) : List UInt8 := joinL 32 ((shape x.v).1.1 :: (W ++ tailT x))
def printC (W : List (List UInt8)) (x : Cm) : List UInt8 := if (shape x.v).2 = false then [] else if (readC (outC W x)).2 ≠ 0 ∨ eqC x (readC (outC W x)).1 = false then [] else outC W x
theorem okW_snoc {x : Cm} {W : List (List UInt8)} {w : List UInt8} (h : okW x W) (h1 : w.length ≤ 24) (h2 : 0 ≤ [x.a, x.b, x.c].getD W.length 0 → [x.a, x.b, x.c].getD W.length 0 < 100 → w = itoaF ([x.a, x.b, x.c].getD W.length 0).toNat) : okW x (W ++ [w]) := by
 intro j hj
 rw [List.length_append] at hj
 by_cases g : j < W.length
 · rw [List.getElem_append_left g]; exact h j g
 · have : j = W.length := by simp at hj; omega
   subst this
   simp only [List.getElem_concat_length]
   exact ⟨h1, h2⟩
theorem joinL_le (c : UInt8) : ∀ (L : List (List UInt8)) (m : Nat), (∀ w ∈ L, w.length ≤ m) → (joinL c L).length ≤ L.length * (m + 1)
 | [], m, _ => by simp [joinL]
 | x :: r, m, h => by
   have hx := h x (by simp)
   have : ∀ r : List (List UInt8), (∀ w ∈ r, w.length ≤ m) → (r.flatMap fun w => c :: w).length ≤ r.length * (m + 1) := by
    intro r
    induction r with
    | nil => intro _; simp
    | cons y r ih =>
      intro h
      have h1 := h y (by simp)
      have h2 := ih (fun w hw => h w (by simp [hw]))
      simp only [List.flatMap_cons, List.length_append, List.length_cons, Nat.add_mul, Nat.one_mul]
      omega
   have h2 := this r (fun w hw => h w (by simp [hw]))
   simp only [joinL, List.length_append, List.length_cons, Nat.add_mul, Nat.one_mul]
   omega
theorem shape_word (v : Int) : (shape v).1.1.length ≤ 8 := by
 unfold shape
 split
 · decide
 · rename_i h
   obtain ⟨k, hk⟩ : ∃ k : Nat, (v - 1).toNat = k := ⟨_, rfl⟩
   rw [hk]
   have h7 : k = 0 ∨ k = 1 ∨ k = 2 ∨ k = 3 ∨ k = 4 ∨ k = 5 ∨ k = 6 ∨ k = 7 ∨ k = 8 ∨ k = 9 ∨ k = 10 ∨ k = 11 ∨ k = 12 := by omega
   rcases h7 with rfl | rfl | rfl | rfl | rfl | rfl | rfl | rfl | rfl | rfl | rfl | rfl | rfl <;> decide
theorem cprint_spec {z : St} (wf : WF z) (hg : Gs z) (ht : Gt z) {x : Cm} (hx : x.amt.c < w128) {κ : Option Nat} {v : Value} (hv : Sln z κ v x.ls) (hok : ∀ y ∈ x.ls, MemLn y) (hl : x.ls.length ≤ 1000) (htx : x.txt.length ≤ 1000000)
  (hn : ∀ j, j < 3 → -1000 < [x.a, x.b, x.c].getD j 0 ∧ [x.a, x.b, x.c].getD j 0 < 1000) (ha : ∀ W, W.length = (shape x.v).1.2 → okW x W → verbN (cut1 32 (outC W x)) = 5 → ∀ c ∈ outC W x, c.toNat < 128) (hmx : ∀ W, W.length = (shape x.v).1.2 → okW x W → (readC (outC W x)).1.amt.c < w128 ∧ (readC (outC W x)).1.ls.length ≤ 1000) :
  Cw Tryz.prog 32 [x.val v] z fun r s' => K0 z s' ∧ ∃ W, W.length = (shape x.v).1.2 ∧ okW x W ∧ r = sv (printC W x) := by
 obtain ⟨a0, c0, rfl⟩ := hv.shape
 have hp : Hp (fun _ => False) z [slA κ (.slice a0 x.ls.length c0) 6 x.ls.length (lnC x.ls)] [] z := Hp.start _ wf _ (by simp; exact hv)
 have hsl := shape_le x.v
 have hsw := shape_word x.v
 refine Cw.enterS Tryz.func32 rfl rfl ?_
 refine Sm.seqW ?_
 conv => whnf
 refine hp.var (cs := x.cells (.slice a0 x.ls.length c0)) (e := 10) rfl rfl ?_
 clear hp
 intro p1 s hp _
 conv => whnf
 refine Sm.live [1] ?_
 conv => whnf
 refine Sm.seqW ?_
 conv => whnf
 refine hp.load (v := .int .i64 x.v) .d (by rfl) rfl rfl rfl ?_
 conv => whnf
 refine hp.call (shapeOf_spec hp.wf x.v) ?_
 clear hp
 rintro _ s rfl hp _
 conv => whnf
 refine hp.alloc (cs := shC ([], 0)) (e := 2) rfl rfl rfl rfl rfl ?_
 clear hp
 intro p3 s hp _
 conv => whnf
 refine hp.storeW (vs := shC (shape x.v).1) rfl .d csx rfl rfl rfl ?_
 clear hp
 intro s hp _
 conv => whnf
 refine Sm.live [1, 3, 4] ?_
 conv => whnf
 refine Sm.seq ?_
 refine Sm.seqW ?_
 conv => whnf
 refine Sm.live [1, 3, 18] ?_
 conv => whnf
 refine Sm.ofW ?_
 conv => whnf
 cases hsh : (shape x.v).2 with
 | false =>
   repeat ((first | refine Br.y1 ?_ | refine Br.n1 ?_); conv => whnf)
   have hzero : (shape x.v).1.2 = 0 := by
    unfold shape at hsh ⊢
    split
    · rfl
    · rename_i g; rw [if_neg g] at hsh; cases hsh
   exact ⟨hp.fr, [], hzero.symm, fun j h => absurd h (Nat.not_lt_zero _), by unfold printC; rw [if_pos hsh]; rfl⟩
 | true =>
   repeat ((first | refine Br.y1 ?_ | refine Br.n1 ?_); conv => whnf)
   refine Sm.seqW ?_
   conv => whnf
   refine hp.load (v := sv (shape x.v).1.1) .d (by rfl) rfl rfl rfl ?_
   conv => whnf
   refine hp.lit (cs := [sv (shape x.v).1.1]) (e := 1) (by rfl) ?_
   clear hp
   intro b5 s hp _
   conv => whnf
   refine Sm.live [1, 3, 5] ?_
   conv => whnf
   refine Sm.seq ?_
   refine Sm.seqW ?_
   conv => whnf
   refine hp.load (v := .int .i64 x.a) .d (by rfl) rfl rfl rfl ?_
   conv => whnf
   refine hp.load (v := .int .i64 x.b) .d (by rfl) rfl rfl rfl ?_
   conv => whnf
   refine hp.load (v := .int .i64 x.c) .d (by rfl) rfl rfl rfl ?_
   conv => whnf
   refine hp.lit (cs := [.int .i64 x.a, .int .i64 x.b, .int .i64 x.c]) (e := 1) (by rfl) ?_
   clear hp
   intro b s hp _
   conv => whnf
   refine hp.load (v := .int .i64 ((shape x.v).1.2 : Int)) .d (by rfl) rfl rfl rfl ?_
   conv => whnf
   refine Om.of _ (slice_int3 (hp.at (show Has (blkA b b _ 1) _ _ by repeat constructor)) hsl) ?_
   conv => whnf
   refine Sm.live [1, 5, 31, 32, 33] ?_
   conv => whnf
   have hp := hp.blkO (k := b5) (b := b5) (n := 1) .d rfl
   refine Sm.block ?_
   refine Sm.loop ?_
   generalize hcnt : (shape x.v).1.2 = n at *
   refine Lp.ofS (α := Option Nat × Value × List (List UInt8)) (fun y => [(1, .pointer (some ⟨p1, 0, none⟩)), (5, y.2.1), (31, .slice (some ⟨b, 0, none⟩) n 3), (32, .int .i64 (n : Int)), (33, .int .i64 (y.2.2.length : Int))])
    (fun y s' => y.2.2.length ≤ n ∧ okW x y.2.2 ∧ Hp (fun _ => False) z [slA κ (.slice a0 x.ls.length c0) 6 x.ls.length (lnC x.ls)] [onA y.1 y.2.1 1 (1 + y.2.2.length) (((shape x.v).1.1 :: y.2.2).map sv), blkA b b [.int .i64 x.a, .int .i64 x.b, .int .i64 x.c] 1, blkA p1 p1 (x.cells (.slice a0 x.ls.length c0)) 10] s') (fun y => n - y.2.2.length) ?_ (some b5, .slice (some ⟨b5, 0, none⟩) 1 1, []) (subK_ok (by refine ⟨rfl, rfl, rfl, rfl, rfl, trivial⟩)) ⟨Nat.zero_le _, fun j h => absurd h (Nat.not_lt_zero _), hp.pik (by repeat (first | exact Pik.nil | exact Pik.refl _ | exact Rm.here | apply Rm.there | apply Pik.cons | apply Pik.skip))⟩
   clear hp
   rintro ⟨κo, vo, W⟩ s ⟨hi, hW, hp⟩
   simp only at hi hW hp
   refine Sm.seqW ?_
   conv => whnf
   refine Sm.live [1, 5, 31, 32, 33, 34] ?_
   conv => whnf
   refine Sm.seq ?_
   refine Sm.ofW ?_
   conv => whnf
   refine Br.mk (fun hc => ?_) (fun hc => ?_)
   · have hc : W.length < n := by have : (W.length : Int) < (n : Int) := of_decide_eq_true hc; omega
     have hcell : ([.int .i64 x.a, .int .i64 x.b, .int .i64 x.c] : List Value)[0 + W.length * 1]? = some (.int .i64 ([x.a, x.b, x.c].getD W.length 0)) := by
      have h : W.length = 0 ∨ W.length = 1 ∨ W.length = 2 := by omega
      rcases h with h | h | h <;> rw [h] <;> rfl
     obtain ⟨hn1, hn2⟩ := hn W.length (by omega)
     conv => whnf
     refine Sm.seq ?_
     refine Sm.block ?_
     refine Sm.seqW ?_
     conv => whnf
     refine Om.of _ (idx_at (P := Tryz.prog) IL (b := b) (off := 0) (c := 3) (n := n) .i64 hc) ?_
     conv => whnf
     refine hp.load (v := .int .i64 ([x.a, x.b, x.c].getD W.length 0)) .d hcell rfl rfl rfl ?_
     conv => whnf
     refine Sm.live [1, 5, 7, 31, 32, 33] ?_
     conv => whnf
     refine Sm.ofW ?_
     conv => whnf
     refine hp.call (itoaA_spec hp.wf (ht.keep hp.fr) hn1 hn2) ?_
     clear hp
     rintro _ s ⟨w, rfl, hw1, hw2⟩ hp _
     conv => whnf
     refine hp.lit (cs := [sv w]) (e := 1) (by rfl) ?_
     clear hp
     intro b4 s4 hp _
     conv => whnf
     have x4 := hp.blkSl (n := 1) (C := [sv w]) (k := b4) (b := b4) (e := 1) .d rfl
     refine hp.app SG Tryz.underlying95 rfl (κ := κo) (v := vo) .d (elems_sl x4) rfl rfl (by omega) ?_
     clear hp x4
     intro v5 κ5 s hp
     have e1 : ((shape x.v).1.1 :: W).map sv ++ [sv w] = ((shape x.v).1.1 :: (W ++ [w])).map sv := by simp
     rw [e1, show 1 + W.length + 1 = 1 + (W ++ [w]).length by rw [List.length_append]; simp; omega] at hp
     conv => whnf
     refine Sm.ofW ?_
     conv => whnf
     exact ⟨(κ5, v5, W ++ [w]), by (show n - (W ++ [w]).length < n - W.length); rw [List.length_append]; simp; omega, subK_ok (by refine ⟨rfl, rfl, rfl, rfl, congrArg (fun x => some (Value.int .i64 x)) (show IntKind.i64.wrap ((W.length : Int) + 1) = (((W ++ [w]).length : Nat) : Int) by rw [wi64 (by omega) (by omega), List.length_append]; simp), trivial⟩), by (show (W ++ [w]).length ≤ n); rw [List.length_append]; simp; omega, okW_snoc hW hw1 hw2, hp.pik (by repeat (first | exact Pik.nil | exact Pik.refl _ | exact Rm.here | apply Rm.there | apply Pik.cons | apply Pik.skip))⟩
   · have hc : W.length = n := by have : ¬ (W.length : Int) < (n : Int) := of_decide_eq_false hc; omega
     conv => whnf
     refine Sm.seq (Sm.mono (Q := fun e' L' s' => e' = .normal ∧ ∃ κo vo, Hp (fun _ => False) z [slA κ (.slice a0 x.ls.length c0) 6 x.ls.length (lnC x.ls)] [onA κo vo 1 (1 + (W ++ tailT x).length) (((shape x.v).1.1 :: (W ++ tailT x)).map sv), blkA p1 p1 (x.cells (.slice a0 x.ls.length c0)) 10] s' ∧ Sub [(1, .pointer (some ⟨p1, 0, none⟩)), (5, vo)] L') ?_ ?_)
     · refine Sm.seqW ?_
       conv => whnf
       refine hp.load (v := .int .i64 x.v) .d (by rfl) rfl rfl rfl ?_
       conv => whnf
       refine Sm.live [1, 5, 44] ?_
       conv => whnf
       refine Sm.block ?_
       refine Sm.seqW ?_
       conv => whnf
       refine Sm.live [1, 5, 44, 45] ?_
       conv => whnf
       refine Sm.ofW ?_
       conv => whnf
       by_cases k1 : x.v = 1
       · refine Br.yes (beq_iff_eq.2 k1) ?_
         conv => whnf
         refine hp.load (v := .slice a0 x.ls.length c0) .d (by rfl) rfl rfl rfl ?_
         conv => whnf
         refine hp.call (eprint_spec hp.wf (hp.slR (κ := κ) (v := .slice a0 x.ls.length c0) .here) hok hl) ?_
         clear hp
         rintro _ s rfl hp _
         conv => whnf
         refine hp.lit (cs := [sv (printL x.ls)]) (e := 1) (by rfl) ?_
         clear hp
         intro b4 s4 hp _
         conv => whnf
         have x4 := hp.blkSl (n := 1) (C := [sv (printL x.ls)]) (k := b4) (b := b4) (e := 1) .d rfl
         refine hp.app SG Tryz.underlying95 rfl (κ := κo) (v := vo) .d (elems_sl x4) rfl rfl (by omega) ?_
         clear hp x4
         intro v5 κ5 s hp
         have e1 : ((shape x.v).1.1 :: W).map sv ++ [sv (printL x.ls)] = ((shape x.v).1.1 :: (W ++ [printL x.ls])).map sv := by simp
         rw [e1, show 1 + W.length + 1 = 1 + (W ++ [printL x.ls]).length by rw [List.length_append]; simp; omega] at hp
         conv => whnf
         have htl : tailT x = [printL x.ls] := by unfold tailT; rw [if_pos k1]
         refine ⟨rfl, κ5, v5, ?_, subK_ok ⟨rfl, rfl, trivial⟩⟩
         rw [htl]
         exact hp.pik (by repeat (first | exact Pik.nil | exact Pik.refl _ | exact Rm.here | apply Rm.there | apply Pik.cons | apply Pik.skip))
       · refine Br.no (beq_eq_false_iff_ne.2 k1) ?_
         conv => whnf
         by_cases k5 : x.v = 5
         · refine Br.yes (beq_iff_eq.2 k5) ?_
           conv => whnf
           refine hp.loadA (l := x.amt.cells) .d rfl (by rfl) rfl rfl ?_
           conv => whnf
           refine hp.call (print_spec hp.wf x.amt hx) ?_
           clear hp
           rintro _ s rfl hp _
           conv => whnf
           refine hp.lit (cs := [sv (printF x.amt)]) (e := 1) (by rfl) ?_
           clear hp
           intro b4 s4 hp _
           conv => whnf
           have x4 := hp.blkSl (n := 1) (C := [sv (printF x.amt)]) (k := b4) (b := b4) (e := 1) .d rfl
           refine hp.app SG Tryz.underlying95 rfl (κ := κo) (v := vo) .d (elems_sl x4) rfl rfl (by omega) ?_
           clear hp x4
           intro v5 κ5 s hp
           have e1 : ((shape x.v).1.1 :: W).map sv ++ [sv (printF x.amt)] = ((shape x.v).1.1 :: (W ++ [printF x.amt])).map sv := by simp
           rw [e1, show 1 + W.length + 1 = 1 + (W ++ [printF x.amt]).length by rw [List.length_append]; simp; omega] at hp
           conv => whnf
           have htl : tailT x = [printF x.amt] := by unfold tailT; rw [if_neg k1, if_pos k5]
           refine ⟨rfl, κ5, v5, ?_, subK_ok ⟨rfl, rfl, trivial⟩⟩
           rw [htl]
           exact hp.pik (by repeat (first | exact Pik.nil | exact Pik.refl _ | exact Rm.here | apply Rm.there | apply Pik.cons | apply Pik.skip))
         · refine Br.no (beq_eq_false_iff_ne.2 k5) ?_
           conv => whnf
           by_cases k9 : x.v = 9
           · refine Br.yes (beq_iff_eq.2 k9) ?_
             conv => whnf
             refine hp.load (v := sv x.txt) .d (by rfl) rfl rfl rfl ?_
             conv => whnf
             refine hp.lit (cs := [sv (x.txt)]) (e := 1) (by rfl) ?_
             clear hp
             intro b4 s4 hp _
             conv => whnf
             have x4 := hp.blkSl (n := 1) (C := [sv (x.txt)]) (k := b4) (b := b4) (e := 1) .d rfl
             refine hp.app SG Tryz.underlying95 rfl (κ := κo) (v := vo) .d (elems_sl x4) rfl rfl (by omega) ?_
             clear hp x4
             intro v5 κ5 s hp
             have e1 : ((shape x.v).1.1 :: W).map sv ++ [sv (x.txt)] = ((shape x.v).1.1 :: (W ++ [x.txt])).map sv := by simp
             rw [e1, show 1 + W.length + 1 = 1 + (W ++ [x.txt]).length by rw [List.length_append]; simp; omega] at hp
             conv => whnf
             have htl : tailT x = [x.txt] := by unfold tailT; rw [if_neg k1, if_neg k5, if_pos k9]
             refine ⟨rfl, κ5, v5, ?_, subK_ok ⟨rfl, rfl, trivial⟩⟩
             rw [htl]
             exact hp.pik (by repeat (first | exact Pik.nil | exact Pik.refl _ | exact Rm.here | apply Rm.there | apply Pik.cons | apply Pik.skip))
           · refine Br.no (beq_eq_false_iff_ne.2 k9) ?_
             conv => whnf
             have htl : tailT x = [] := by unfold tailT; rw [if_neg k1, if_neg k5, if_neg k9]
             refine ⟨rfl, κo, vo, ?_, subK_ok ⟨rfl, rfl, trivial⟩⟩
             rw [htl, List.append_nil]
             exact hp.pik (by repeat (first | exact Pik.nil | exact Pik.refl _ | exact Rm.here | apply Rm.there | apply Pik.cons | apply Pik.skip))
     clear hp
     rintro e' L' s ⟨rfl, κo, vo, hp, hs⟩
     refine Sm.weak _ hs ?_
     clear hs
     have hok1 := hW
     have hmem : ∀ w ∈ (shape x.v).1.1 :: (W ++ tailT x), w.length ≤ 1000000 := by
      intro w hw
      rcases List.mem_cons.1 hw with rfl | hw
      · omega
      rcases List.mem_append.1 hw with hw | hw
      · obtain ⟨j, hj, rfl⟩ := List.getElem_of_mem hw
        have := (hW j hj).1; omega
      · unfold tailT at hw
        have h1 := lines_le x.ls
        have h2 := print_le x.amt
        split at hw
        · obtain rfl := List.mem_singleton.1 hw
          unfold printL
          split
          · simp
          · omega
        · split at hw
          · obtain rfl := List.mem_singleton.1 hw; omega
          · split at hw
            · obtain rfl := List.mem_singleton.1 hw; exact htx
            · cases hw
     have htl1 : (tailT x).length ≤ 1 := by unfold tailT; split; simp; split; simp; split <;> simp
     have hln : ((shape x.v).1.1 :: (W ++ tailT x)).length ≤ 5 := by rw [List.length_cons, List.length_append]; omega
     have hout : (outC W x).length ≤ 5000005 := by
      have h1 := joinL_le 32 _ _ hmem
      have h2 := Nat.mul_le_mul_right 1000001 hln
      unfold outC
      omega
     refine Sm.seqW ?_
     conv => whnf
     have hso : Sl s κo vo 1 ((shape x.v).1.1 :: (W ++ tailT x)).length (((shape x.v).1.1 :: (W ++ tailT x)).map sv) := by
      rw [List.length_cons, Nat.add_comm]
      exact hp.slF .d
     refine hp.call (sjoin_spec hp.wf hso 32 (by show (outC W x).length ≤ _; omega)) ?_
     clear hp
     rintro _ s rfl hp _
     conv => whnf
     have hJ : joinL 32 ((shape x.v).1.1 :: (W ++ tailT x)) = outC W x := rfl
     rw [hJ]
     refine Sm.live [1, 8] ?_
     conv => whnf
     refine Sm.seq ?_
     refine Sm.seqW ?_
     conv => whnf
     refine hp.call (cread_spec hp.wf (hg.keep hp.fr) (outC W x) (by omega) (ha W hc hW)) ?_
     intro r s hr h1 k1
     obtain ⟨w9, rfl, how_⟩ := hr
     obtain ⟨hm1, hm2⟩ := hmx W hc hW
     have hpc : printC W x = if (readC (outC W x)).2 ≠ 0 ∨ eqC x (readC (outC W x)).1 = false then [] else outC W x := by
      unfold printC; rw [if_neg (by rw [hsh]; decide)]
     generalize readC (outC W x) = A at *
     obtain ⟨κ9, hp⟩ := hp.on k1 how_
     clear h1 k1 how_
     obtain ⟨a9, c9, rfl⟩ := (hp.slF (κ := κ9) (v := w9) .d).shape
     conv => whnf
     refine hp.alloc (cs := Cm.zero.cells nil24) (e := 10) rfl rfl rfl rfl rfl ?_
     clear hp
     intro p9 s hp _
     conv => whnf
     refine hp.storeW (vs := A.1.cells (.slice a9 A.1.ls.length c9)) rfl .d csx rfl rfl rfl ?_
     clear hp
     intro s hp _
     conv => whnf
     refine Sm.live [1, 8, 9, 10] ?_
     conv => whnf
     refine Sm.seqW ?_
     conv => whnf
     by_cases he : A.2 = 0
     · have q1 : (!(A.2 == 0)) = false := by rw [he]; rfl
       repeat (first | (refine Br.no q1 ?_; conv => whnf) | ((first | refine Br.y1 ?_ | refine Br.n1 ?_); conv => whnf))
       refine hp.loadA (l := x.cells (.slice a0 x.ls.length c0)) .d rfl (by rfl) rfl rfl ?_
       conv => whnf
       repeat (first | (refine Br.no q1 ?_; conv => whnf) | ((first | refine Br.y1 ?_ | refine Br.n1 ?_); conv => whnf))
       refine hp.loadA (l := A.1.cells (.slice a9 A.1.ls.length c9)) .d rfl (by rfl) rfl rfl ?_
       conv => whnf
       repeat (first | (refine Br.no q1 ?_; conv => whnf) | ((first | refine Br.y1 ?_ | refine Br.n1 ?_); conv => whnf))
       refine hp.call (csame_spec hp.wf hx hm1 (hp.slR (κ := κ) (v := .slice a0 x.ls.length c0) .here) (hp.slF (κ := κ9) (v := .slice a9 A.1.ls.length c9) .d) hl) ?_
       clear hp
       rintro _ s rfl hp _
       conv => whnf
       repeat (first | (refine Br.no q1 ?_; conv => whnf) | ((first | refine Br.y1 ?_ | refine Br.n1 ?_); conv => whnf))
       refine Sm.live [8, 82] ?_
       conv => whnf
       refine Sm.ofW ?_
       conv => whnf
       cases hq : eqC x A.1 with
       | true =>
         repeat ((first | refine Br.y1 ?_ | refine Br.n1 ?_); conv => whnf)
         refine Sm.seqW ?_
         conv => whnf
         refine Sm.live [2] ?_
         conv => whnf
         refine Sm.ofW ?_
         conv => whnf
         exact ⟨hp.fr, W, hc, hW, by rw [hpc, if_neg (fun h => h.elim (fun g => g he) (fun g => by rw [hq] at g; cases g))]; rfl⟩
       | false =>
         repeat ((first | refine Br.y1 ?_ | refine Br.n1 ?_); conv => whnf)
         exact ⟨hp.fr, W, hc, hW, by rw [hpc, if_pos (.inr hq)]; rfl⟩
     · have q1 : (!(A.2 == 0)) = true := by rw [beq_eq_false_iff_ne.2 he]; rfl
       repeat (first | (refine Br.yes q1 ?_; conv => whnf) | ((first | refine Br.y1 ?_ | refine Br.n1 ?_); conv => whnf))
       refine Sm.live [8, 82] ?_
       conv => whnf
       refine Sm.ofW ?_
       conv => whnf
       repeat ((first | refine Br.y1 ?_ | refine Br.n1 ?_); conv => whnf)
       exact ⟨hp.fr, W, hc, hW, by rw [hpc, if_pos (.inl he)]; rfl⟩
end

/- Commands printed and read, without a program; the chapter's example. No condition. -/
section
variable [Lk]
theorem word_ok : ∀ k : _root_.Fin 13, verbN (shape ((k.val + 1 : Nat) : Int)).1.1 = k.val + 1 ∧ ((shape ((k.val + 1 : Nat) : Int)).1.1.all fun b => !(b == 32)) = true := by decide +kernel
theorem shape_ok {v : Int} (h : (shape v).2 = true) : ∃ k : Nat, v = ((k + 1 : Nat) : Int) ∧ k < 13 := by
 unfold shape at h
 split at h
 · cases h
 · exact ⟨(v - 1).toNat, by omega, by omega⟩
theorem cut_join {w : List UInt8} (h : ∀ b ∈ w, b ≠ 32) (L : List (List UInt8)) : cut1 32 (joinL 32 (w :: L)) = w := by
 cases L with
 | nil => rw [show joinL 32 [w] = w by simp [joinL]]; exact (cut_self h).1
 | cons y r =>
   rw [show joinL 32 (w :: y :: r) = w ++ 32 :: joinL 32 (y :: r) from rfl]
   exact (cut_app h _).1
theorem out_verb {x : Cm} (h : (shape x.v).2 = true) (W : List (List UInt8)) : ((verbN (cut1 32 (outC W x)) : Nat) : Int) = x.v := by
 obtain ⟨k, hk, hk13⟩ := shape_ok h
 obtain ⟨h1, h2⟩ := word_ok ⟨k, hk13⟩
 unfold outC
 rw [cut_join (fun b hb => ?_)]
 · rw [hk, h1]
 · rw [hk] at hb
   have := List.all_eq_true.1 h2 b hb
   simpa using this
theorem W_eq {x : Cm} {W : List (List UInt8)} (h : okW x W) (hr : ∀ j, j < W.length → 0 ≤ [x.a, x.b, x.c].getD j 0 ∧ [x.a, x.b, x.c].getD j 0 < 100) : W = (List.range W.length).map fun j => itoaF ([x.a, x.b, x.c].getD j 0).toNat := by
 refine List.ext_getElem (by simp) fun j h1 h2 => ?_
 rw [(h j h1).2 (hr j h1).1 (hr j h1).2]
 simp
theorem readC_c (t : List UInt8) : (readC t).1.amt.c < w128 ∧ (readC t).1.ls.length ≤ 1000 := by
 have z : (Cm.zero.amt.c < w128 ∧ Cm.zero.ls.length ≤ 1000) := ⟨by show 0 < w128; decide, by decide⟩
 unfold readC
 split
 · exact z
 · split
   · exact z
   · unfold restC
     split
     · split
       · exact z
       · exact ⟨by show 0 < w128; decide, by have := readL_len; exact Nat.le_trans (this _) (by decide)⟩
     · split
       · split
         · exact z
         · refine ⟨?_, Nat.zero_le _⟩
           show (amtF _).1.c < w128
           unfold amtF
           split
           · show 0 < w128; decide
           · split
             · show 0 < w128; decide
             · show ((readL _).1.headD Ln.zero).amt.c < w128
               cases hq : (readL (48 :: 58 :: _)).1 with
               | nil => show 0 < w128; decide
               | cons y r => exact readL_c _ y (by rw [hq]; simp)
       · split
         · split
           · exact z
           · exact ⟨by show 0 < w128; decide, Nat.zero_le _⟩
         · exact ⟨by show 0 < w128; decide, Nat.zero_le _⟩
/-! ### the chapter's example -/
def knT : List UInt8 := [99, 108, 111, 115, 101, 32, 48, 32, 49]
def knC : Cm := ⟨3, 0, 1, 0, Dc.zero, [], []⟩
theorem kn_read : readC knT = (knC, 0) := by kernel_rfl
theorem kn_out {W : List (List UInt8)} (h1 : W.length = (shape knC.v).1.2) (h2 : okW knC W) : outC W knC = knT := by
 have h3 : W.length = 2 := h1
 have := W_eq h2 (fun j hj => by
  have : j = 0 ∨ j = 1 := by omega
  rcases this with rfl | rfl <;> decide)
 rw [this, h3]; rfl
theorem kn_print {W : List (List UInt8)} (h1 : W.length = (shape knC.v).1.2) (h2 : okW knC W) : printC W knC = knT := by
 unfold printC
 rw [kn_out h1 h2, kn_read]
 rfl
theorem cmknown_spec {z : St} (wf : WF z) (hg : Gs z) (ht : Gt z) : Cw Tryz.prog 34 [] z fun r s' => K0 z s' ∧ r = .bool true := by
 have hp : Hp (fun _ => False) z [] [] z := Hp.start _ wf _ (by simp)
 refine Cw.enterS Tryz.func34 rfl rfl ?_
 refine Sm.seqW ?_
 conv => whnf
 refine Sm.seqW ?_
 conv => whnf
 refine hp.call (cread_spec hp.wf hg knT (by decide) (fun h => absurd h (by decide +kernel))) ?_
 intro r s hr h1 k1
 obtain ⟨w, rfl, how_⟩ := hr
 rw [kn_read] at how_ ⊢
 obtain ⟨κ, hp⟩ := hp.on k1 how_
 clear h1 k1 how_
 obtain ⟨a, c, rfl⟩ := (hp.slF (κ := κ) (v := w) .d).shape
 conv => whnf
 refine hp.alloc (cs := Cm.zero.cells nil24) (e := 10) rfl rfl rfl rfl rfl ?_
 clear hp
 intro p1 s hp _
 conv => whnf
 refine hp.storeW (vs := knC.cells (.slice a knC.ls.length c)) rfl .d csx rfl rfl rfl ?_
 clear hp
 intro s hp _
 conv => whnf
 refine Sm.live [1, 2] ?_
 conv => whnf
 refine Sm.seqW ?_
 conv => whnf
 repeat ((first | refine Br.y1 ?_ | refine Br.n1 ?_); conv => whnf)
 refine hp.load (v := .int .i64 3) .d (by rfl) rfl rfl rfl ?_
 conv => whnf
 repeat ((first | refine Br.y1 ?_ | refine Br.n1 ?_); conv => whnf)
 refine hp.load (v := .int .i64 0) .d (by rfl) rfl rfl rfl ?_
 conv => whnf
 repeat ((first | refine Br.y1 ?_ | refine Br.n1 ?_); conv => whnf)
 refine hp.load (v := .int .i64 1) .d (by rfl) rfl rfl rfl ?_
 conv => whnf
 repeat ((first | refine Br.y1 ?_ | refine Br.n1 ?_); conv => whnf)
 refine hp.loadA (l := knC.cells (.slice a knC.ls.length c)) .d rfl (by rfl) rfl rfl ?_
 conv => whnf
 repeat ((first | refine Br.y1 ?_ | refine Br.n1 ?_); conv => whnf)
 refine hp.call (cprint_spec hp.wf (hg.keep hp.fr) (ht.keep hp.fr) (x := knC) (by show 0 < w128; decide) (hp.slF (κ := κ) (v := .slice a knC.ls.length c) .d) (fun y hy => by cases hy) (by decide) (by decide) (by decide) (fun W h1 h2 h5 => by rw [kn_out h1 h2] at h5; exact absurd h5 (by decide +kernel)) (fun W h1 h2 => readC_c _)) ?_
 clear hp
 rintro _ s ⟨W, hW1, hW2, rfl⟩ hp _
 rw [kn_print hW1 hW2]
 conv => whnf
 repeat ((first | refine Br.y1 ?_ | refine Br.n1 ?_); conv => whnf)
 refine Om.of _ (sv_eq knT knT) ?_
 conv => whnf
 repeat ((first | refine Br.y1 ?_ | refine Br.n1 ?_); conv => whnf)
 refine hp.load (v := .int .i64 3) .d (by rfl) rfl rfl rfl ?_
 conv => whnf
 repeat ((first | refine Br.y1 ?_ | refine Br.n1 ?_); conv => whnf)
 refine (changes_spec _ 3).mono ?_
 rintro _ s1 ⟨h1, rfl⟩
 obtain rfl := h1.symm
 conv => whnf
 repeat ((first | refine Br.y1 ?_ | refine Br.n1 ?_); conv => whnf)
 refine (changes_spec _ 6).mono ?_
 rintro _ s1 ⟨h1, rfl⟩
 obtain rfl := h1.symm
 conv => whnf
 repeat ((first | refine Br.y1 ?_ | refine Br.n1 ?_); conv => whnf)
 refine Sm.live [0] ?_
 conv => whnf
 refine Sm.ofW ?_
 conv => whnf
 exact ⟨hp.fr, rfl⟩
end

/- CmdNumbers without a program. No condition. -/
section
variable [Lk]
theorem nums_rng : ∀ {n : Nat} {r : List UInt8} {q : Bool} {x : List Int × List UInt8 × Bool}, numsF n r q = some x → x.1.length = n ∧ ∀ e ∈ x.1, 0 ≤ e ∧ e < 100
 | 0, r, q, x, h => by injection h with h; subst h; exact ⟨rfl, fun e he => by cases he⟩
 | n + 1, r, q, x, h => by
   rw [numsF] at h
   split at h
   · cases h
   · rename_i g
     cases hq : numsF n (cut2 32 r) (cutQ 32 r) with
     | none => rw [hq] at h; cases h
     | some y =>
       rw [hq] at h
       injection h with h
       subst h
       obtain ⟨h1, h2⟩ := nums_rng hq
       refine ⟨by show (_ :: y.1).length = _; rw [List.length_cons, h1], fun e he => ?_⟩
       rcases List.mem_cons.1 he with rfl | he
       · have g2 : ¬ smallF (cut1 32 r) < 0 := fun q => g (.inr q)
         obtain ⟨k, a1, a2, a3⟩ := smallF_ok g2
         omega
       · exact h2 e he
theorem read_rng {t : List UInt8} (h : (readC t).2 = 0) : 2 ≤ (shape (readC t).1.v).1.2 → (0 ≤ (readC t).1.a ∧ (readC t).1.a < 100) ∧ (0 ≤ (readC t).1.b ∧ (readC t).1.b < 100) := by
 unfold readC at h ⊢
 cases hn : numsF (shape (verbN (cut1 32 t))).1.2 (cut2 32 t) (cutQ 32 t) with
 | none => rw [hn] at h; cases h
 | some x =>
   obtain ⟨l, r, q⟩ := x
   rw [hn] at h
   obtain ⟨h1, h2⟩ := nums_rng hn
   simp only at h h1 h2 ⊢
   generalize hk : (verbN (cut1 32 t) : Int) = k at *
   split
   · rename_i g; rw [if_pos g] at h; cases h
   · rename_i g
     rw [if_neg g] at h
     have key : 2 ≤ (shape k).1.2 → (0 ≤ l.getD 0 0 ∧ l.getD 0 0 < 100) ∧ (0 ≤ l.getD 1 0 ∧ l.getD 1 0 < 100) := by
      intro hh
      match l, h1, h2 with
      | [], h1, _ => simp at h1; omega
      | [_], h1, _ => simp at h1; omega
      | e :: f :: l, _, h2 => exact ⟨h2 e (by simp), h2 f (by simp)⟩
     unfold restC at h ⊢
     repeat' split
     all_goals first | exact key | (simp_all; done) | skip
theorem print_out {x : Cm} (h2 : 2 ≤ (shape x.v).1.2) (hr : ¬ ((0 ≤ x.a ∧ x.a < 100) ∧ (0 ≤ x.b ∧ x.b < 100))) (W : List (List UInt8)) : printC W x = [] := by
 unfold printC
 split
 · rfl
 · split
   · rfl
   · rename_i g
     exfalso
     have g1 : (readC (outC W x)).2 = 0 := Classical.byContradiction fun h => g (.inl h)
     have g2 : eqC x (readC (outC W x)).1 = true := by
      cases hq : eqC x (readC (outC W x)).1 with
      | true => rfl
      | false => exact absurd (.inr hq) g
     have h3 := read_rng g1
     generalize (readC (outC W x)).1 = y at *
     unfold eqC at g2
     simp only [Bool.and_eq_true, beq_iff_eq] at g2
     obtain ⟨e1, e2, e3, _⟩ := g2
     rw [← e1] at h3
     have := h3 h2
     rw [e2, e3] at hr
     exact hr this
end

/- CmdNumbers: rates; the document's figures; commands of the law. No condition. -/
section
variable [Lk]
theorem eqC_self (x : Cm) : eqC x x = true := by unfold eqC; simp [eqD_self]
end

/- CmdKnown without a program: the texts that are read, printed, refused. No condition. -/
section
variable [Lk]
theorem smallF_lt (l : List UInt8) : smallF l < 100 := by
 by_cases h : smallF l < 0
 · omega
 · obtain ⟨k, h1, h2, h3⟩ := smallF_ok h; omega
theorem readL_mem (l : List UInt8) : ∀ x ∈ (readL l).1, MemLn x := by
 intro x hx
 have hc := readL_c l x hx
 unfold readL at hx
 split at hx
 · cases hx
 · split at hx
   · cases hx
   · split at hx
     · cases hx
     · obtain ⟨t, ht, rfl⟩ := List.mem_map.1 hx
       refine ⟨?_, ?_, hc⟩
       · unfold oneF
         simp only
         repeat' split
         all_goals first | exact smallF_lt _ | (show (0 : Int) < 100; decide)
       · unfold oneF
         simp only
         repeat' split
         all_goals first | exact smallF_lt _ | (show (0 : Int) < 100; decide) | (show (-1 : Int) < 100; decide)
theorem readC_mem (t : List UInt8) : ∀ x ∈ (readC t).1.ls, MemLn x := by
 intro x hx
 unfold readC at hx
 split at hx
 · cases hx
 · split at hx
   · cases hx
   · unfold restC at hx
     split at hx
     · split at hx
       · cases hx
       · exact readL_mem _ x hx
     · split at hx
       · split at hx <;> cases hx
       · split at hx
         · split at hx <;> cases hx
         · cases hx
theorem readC_txt (t : List UInt8) : (readC t).1.txt.length ≤ t.length := by
 unfold readC
 split
 · exact Nat.zero_le _
 · rename_i l r q hn
   have h1 := (nums_sub hn).2
   have h2 := cut2_len 32 t
   split
   · exact Nat.zero_le _
   · unfold restC
     repeat' split
     all_goals first | exact Nat.zero_le _ | exact Nat.le_trans h1 h2
def outK (x : Cm) : List UInt8 := joinL 32 ((shape x.v).1.1 :: (((List.range (shape x.v).1.2).map fun j => itoaF ([x.a, x.b, x.c].getD j 0).toNat) ++ tailT x))
def inK (x : Cm) : Bool := (List.range 3).all fun j => decide (0 ≤ [x.a, x.b, x.c].getD j 0) && decide ([x.a, x.b, x.c].getD j 0 < 100)
def goodT (t : List UInt8) (k : Int) : Bool := (readC t).2 == 0 && ((readC t).1.v == k && (outK (readC t).1 == t && (inK (readC t).1 && (shape (readC t).1.v).2)))
theorem inK_at {x : Cm} (h : inK x = true) (j : Nat) (hj : j < 3) : 0 ≤ [x.a, x.b, x.c].getD j 0 ∧ [x.a, x.b, x.c].getD j 0 < 100 := by
 have := List.all_eq_true.1 h j (List.mem_range.2 hj)
 simpa using this
theorem goodT_out {t : List UInt8} {k : Int} (h : goodT t k = true) {W : List (List UInt8)} (h1 : W.length = (shape (readC t).1.v).1.2) (h2 : okW (readC t).1 W) : outC W (readC t).1 = t := by
 unfold goodT at h
 simp only [Bool.and_eq_true, beq_iff_eq] at h
 obtain ⟨g1, g2, g3, g4, g5⟩ := h
 have hs := shape_le (readC t).1.v
 have hW := W_eq h2 (fun j hj => inK_at g4 j (by omega))
 have : outC W (readC t).1 = outK (readC t).1 := by
  unfold outC outK
  rw [hW, h1]
 rw [this, g3]
theorem goodT_print {t : List UInt8} {k : Int} (h : goodT t k = true) {W : List (List UInt8)} (h1 : W.length = (shape (readC t).1.v).1.2) (h2 : okW (readC t).1 W) : printC W (readC t).1 = t := by
 have ho := goodT_out h h1 h2
 unfold goodT at h
 simp only [Bool.and_eq_true, beq_iff_eq] at h
 obtain ⟨g1, g2, g3, g4, g5⟩ := h
 unfold printC
 rw [if_neg (by rw [g5]; decide), ho, if_neg (by rw [g1, eqC_self]; simp)]
def knL : List (List UInt8) := ["post 0 1 0:1,8:-1", "reverse 1 2 3", "close 0 11", "reopen 99 0", "rate 0 1 2 1.25", "trial 0 0", "consol 1 2", "match 0 0", "query  any thing", "release 12 3", "released", "chain 4", "group 0"].map fun s => s.toUTF8.data.toList
theorem knL_ok : ∀ i : _root_.Fin 13, goodT (knL.getD i.val []) ((i.val : Int) + 1) = true ∧ ((knL.getD i.val []).all fun c => decide (c.toNat < 128)) = true ∧ chgF ((i.val : Int) + 1) = (decide (i.val < 5) || i.val == 9) := by decide +kernel
def bdL : List (List UInt8) := ["", "close", "close 0", "close 0 1 ", "close 0 1 2", " close 0 1", "close  0 1", "close 00 1", "close 0 100", "post 0 1", "post 0 1 ", "rate 0 1 2 01.5", "query", "query ", "released 1", "query a\nb"].map fun s => s.toUTF8.data.toList
theorem bdL_ok : ∀ i : _root_.Fin 16, ((readC (bdL.getD i.val [])).2 == 2) = true ∧ ((bdL.getD i.val []).all fun c => decide (c.toNat < 128)) = true ∧ (bdL.getD i.val []).length ≤ 100 := by decide +kernel
def ovT : List UInt8 := "rate 0 1 2 999999999999999999999999999999.9".toUTF8.data.toList
def lnT : List UInt8 := "post 0 0 0:999999999999999999999999999999.9".toUTF8.data.toList
def lgT : List UInt8 := [113, 117, 101, 114, 121, 32] ++ List.replicate 400 0
theorem ov_ok : ((readC ovT).2 == 3) = true ∧ (ovT.all fun c => decide (c.toNat < 128)) = true ∧ ovT.length ≤ 100 := by decide +kernel
theorem ln_ok2 : ((readC lnT).2 == 3) = true ∧ verbN (cut1 32 lnT) ≠ 5 ∧ lnT.length ≤ 100 := by decide +kernel
theorem lg_ok : ((readC lgT).2 == 2) = true ∧ verbN (cut1 32 lgT) ≠ 5 ∧ lgT.length ≤ 500 := by decide +kernel
def eT8 : List UInt8 := "0:1,8:-1".toUTF8.data.toList
def exL8 : List Ln := (readL eT8).1
def pX (v a c : Int) (ls : List Ln) : Cm := ⟨v, a, 0, c, Dc.zero, ls, []⟩
def poT : List UInt8 := "post 0 0 0:1,8:-1".toUTF8.data.toList
theorem eqC_c {x y : Cm} (h : (x.c == y.c) = false) : eqC x y = false := by
 unfold eqC; rw [h]; cases x.v == y.v <;> cases x.a == y.a <;> cases x.b == y.b <;> rfl
theorem eqC_ls {x y : Cm} (h : x.ls ≠ y.ls) : eqC x y = false := by
 unfold eqC; rw [decide_eq_false h]; simp
theorem p2_c : ((pX 3 0 1 []).c == (readC (outC [itoaF 0, itoaF 0] (pX 3 0 1 []))).1.c) = false := by decide +kernel
theorem p4_l : (exL8.length == 2) = true ∧ ((readC (outC [itoaF 0, itoaF 0] (pX 6 0 0 exL8))).1.ls.length == 0) = true := by decide +kernel
theorem p5_r : (readC poT).1 = pX 1 0 0 exL8 := by kernel_rfl
theorem p5_g : goodT poT 1 = true := by decide +kernel
theorem p2_ok : printC [itoaF 0, itoaF 0] (pX 3 0 1 []) = [] := by
 unfold printC
 split
 · rfl
 · rw [if_pos (.inr (eqC_c p2_c))]
theorem p4_ok : printC [itoaF 0, itoaF 0] (pX 6 0 0 exL8) = [] := by
 unfold printC
 split
 · rfl
 · rw [if_pos (.inr (eqC_ls (fun h => by
    have h1 := beq_iff_eq.1 p4_l.1
    have h2 := beq_iff_eq.1 p4_l.2
    have h : exL8 = (readC (outC [itoaF 0, itoaF 0] (pX 6 0 0 exL8))).1.ls := h
    rw [← h] at h2
    omega)))]
theorem W_00 {x : Cm} (ha : x.a = 0) (hb : x.b = 0) {W : List (List UInt8)} (h1 : W.length = 2) (h2 : okW x W) : W = [itoaF 0, itoaF 0] := by
 have := W_eq h2 (fun j hj => by
  have : j = 0 ∨ j = 1 := by omega
  rcases this with rfl | rfl
  · show 0 ≤ x.a ∧ x.a < 100; omega
  · show 0 ≤ x.b ∧ x.b < 100; omega)
 rw [this, h1]
 show [itoaF x.a.toNat, itoaF x.b.toNat] = _
 rw [ha, hb]; rfl
end

/- CmdKnown walked. No condition but what it names. -/
section
variable [Lk]
theorem nums3 {x : Cm} (h : inK x = true) (j : Nat) (hj : j < 3) : -1000 < [x.a, x.b, x.c].getD j 0 ∧ [x.a, x.b, x.c].getD j 0 < 1000 := by
 have := inK_at h j hj; omega
theorem cmdKnown_walk {s0 : St} (wf : WF s0) (hg : Gs s0) (ht : Gt s0) : Cw Tryz.prog 8 [] s0 fun r _ => r = .bool true := by
 have hp : Hp (fun _ => False) s0 [] [] s0 := Hp.start _ wf _ (by simp)
 refine Cw.enterS Tryz.func8 rfl rfl ?_
 refine Sm.seqW ?_
 conv => whnf
 refine Sm.seqW ?_
 conv => whnf
 refine hp.alloc (cs := List.replicate 13 (sv [])) (e := 1) rfl rfl rfl rfl rfl ?_
 clear hp
 intro p1 s hp _
 conv => whnf
 refine hp.storeW (vs := knL.map sv) ?h1 .here (by simp [knL]) rfl (by kernel_rfl) (by kernel_rfl) ?_
 case h1 => kernel_rfl
 clear hp
 intro s hp _
 conv => whnf
 refine Sm.live [1] ?_
 conv => whnf
 refine Sm.seq ?_
 refine Sm.seqW ?_
 conv => whnf
 refine hp.loadA (l := knL.map sv) .d rfl (by kernel_rfl) rfl rfl ?_
 conv => whnf
 refine Sm.live [19, 20] ?_
 conv => whnf
 refine Sm.block ?_
 refine Sm.loop ?_
 refine Lp.ofS (α := Nat) (fun i => [(19, .agg (knL.map sv).toArray), (20, .int .i64 (i : Int))])
  (fun i s' => i ≤ 13 ∧ Hp (fun _ => False) s0 [] [] s') (fun i => 13 - i) ?_ 0 (subK_ok (by refine ⟨rfl, rfl, trivial⟩)) ⟨Nat.zero_le _, hp.pik (by repeat (first | exact Pik.nil | exact Pik.refl _ | exact Rm.here | apply Rm.there | apply Pik.cons | apply Pik.skip))⟩
 clear hp
 rintro i s ⟨hi, hp⟩
 refine Sm.seqW ?_
 conv => whnf
 refine Sm.live [19, 20, 21] ?_
 conv => whnf
 refine Sm.seq ?_
 refine Sm.ofW ?_
 conv => whnf
 refine Br.mk (fun hc => ?_) (fun hc => ?_)
 · have hc : i < 13 := by have : (i : Int) < 13 := of_decide_eq_true hc; omega
   have h13 : i = 0 ∨ i = 1 ∨ i = 2 ∨ i = 3 ∨ i = 4 ∨ i = 5 ∨ i = 6 ∨ i = 7 ∨ i = 8 ∨ i = 9 ∨ i = 10 ∨ i = 11 ∨ i = 12 := by omega
   obtain ⟨gT, gA, gC⟩ := knL_ok ⟨i, hc⟩
   simp only at gT gA gC
   conv => whnf
   refine Sm.seq ?_
   refine Sm.block ?_
   refine Sm.seqW ?_
   conv => whnf
   refine Om.of (sv (knL.getD i [])) (by rcases h13 with rfl | rfl | rfl | rfl | rfl | rfl | rfl | rfl | rfl | rfl | rfl | rfl | rfl <;> kernel_rfl) ?_
   conv => whnf
   refine Sm.live [2, 3, 19, 20] ?_
   conv => whnf
   have hmm := readC_mem (knL.getD i [])
   have hcc := readC_c (knL.getD i [])
   have hlen : (knL.getD i []).length ≤ 100 := by rcases h13 with rfl | rfl | rfl | rfl | rfl | rfl | rfl | rfl | rfl | rfl | rfl | rfl | rfl <;> decide +kernel
   have hasc : ∀ c ∈ knL.getD i [], c.toNat < 128 := fun c hc => by simpa using List.all_eq_true.1 gA c hc
   generalize knL.getD i [] = t at *
   have hrl : (readC t).1.txt.length ≤ 1000000 := Nat.le_trans (readC_txt t) (by omega)
   have hout : ∀ W, W.length = (shape (readC t).1.v).1.2 → okW (readC t).1 W → outC W (readC t).1 = t := fun W a b => goodT_out gT a b
   have hpr : ∀ W, W.length = (shape (readC t).1.v).1.2 → okW (readC t).1 W → printC W (readC t).1 = t := fun W a b => goodT_print gT a b
   have hgt := gT
   unfold goodT at hgt
   simp only [Bool.and_eq_true, beq_iff_eq] at hgt
   obtain ⟨b1, b2, b3, b4, b5⟩ := hgt
   refine Sm.seqW ?_
   conv => whnf
   refine hp.call (cread_spec hp.wf (hg.keep hp.fr) t (by omega) (fun _ => hasc)) ?_
   intro r s hr h1 k1
   obtain ⟨w, rfl, how_⟩ := hr
   have ha5 : ∀ W, W.length = (shape (readC t).1.v).1.2 → okW (readC t).1 W → verbN (cut1 32 (outC W (readC t).1)) = 5 → ∀ c ∈ outC W (readC t).1, c.toNat < 128 := fun W h1 h2 _ => by rw [hout W h1 h2]; exact hasc
   generalize readC t = A at *
   obtain ⟨κ, hp⟩ := hp.on k1 how_
   clear h1 k1 how_
   obtain ⟨aw, cw, rfl⟩ := (hp.slF (κ := κ) (v := w) .d).shape
   conv => whnf
   refine hp.alloc (cs := Cm.zero.cells nil24) (e := 10) rfl rfl rfl rfl rfl ?_
   clear hp
   intro p4 s hp _
   conv => whnf
   refine hp.storeW (vs := A.1.cells (.slice aw A.1.ls.length cw)) rfl .d csx rfl rfl rfl ?_
   clear hp
   intro s hp _
   conv => whnf
   refine Sm.live [2, 3, 4, 5, 19, 20] ?_
   conv => whnf
   refine Sm.seqW ?_
   conv => whnf
   rw [b1]
   repeat ((first | refine Br.y1 ?_ | refine Br.n1 ?_); conv => whnf)
   refine hp.load (v := .int .i64 A.1.v) .d (by rfl) rfl rfl rfl ?_
   conv => whnf
   repeat ((first | refine Br.y1 ?_ | refine Br.n1 ?_); conv => whnf)
   rw [b2]
   have ei : IntKind.i64.wrap ((i : Int) + 1) = (i : Int) + 1 := wi64 (by omega) (by omega)
   rw [ei]
   have qv : (!((i : Int) + 1 == (i : Int) + 1)) = false := by rw [beq_self_eq_true]; rfl
   repeat (first | (refine Br.no qv ?_; conv => whnf) | ((first | refine Br.y1 ?_ | refine Br.n1 ?_); conv => whnf))
   refine hp.loadA (l := A.1.cells (.slice aw A.1.ls.length cw)) .d rfl (by rfl) rfl rfl ?_
   conv => whnf
   repeat (first | (refine Br.no qv ?_; conv => whnf) | ((first | refine Br.y1 ?_ | refine Br.n1 ?_); conv => whnf))
   refine hp.call (cprint_spec hp.wf (hg.keep hp.fr) (ht.keep hp.fr) (x := A.1) hcc.1 (hp.slF (κ := κ) (v := .slice aw A.1.ls.length cw) .d) hmm hcc.2 hrl (fun j hj => nums3 b4 j hj) ha5 (fun W h1 h2 => readC_c _)) ?_
   clear hp
   rintro _ s ⟨W, hW1, hW2, rfl⟩ hp _
   rw [hpr W hW1 hW2]
   conv => whnf
   repeat (first | (refine Br.no qv ?_; conv => whnf) | ((first | refine Br.y1 ?_ | refine Br.n1 ?_); conv => whnf))
   refine Om.of _ (sv_ne t t) ?_
   conv => whnf
   rw [beq_self_eq_true]
   repeat (first | (refine Br.no qv ?_; conv => whnf) | ((first | refine Br.y1 ?_ | refine Br.n1 ?_); conv => whnf))
   refine hp.load (v := .int .i64 A.1.v) .d (by rfl) rfl rfl rfl ?_
   conv => whnf
   repeat (first | (refine Br.no qv ?_; conv => whnf) | ((first | refine Br.y1 ?_ | refine Br.n1 ?_); conv => whnf))
   rw [b2]
   refine (changes_spec _ ((i : Int) + 1)).mono ?_
   rintro _ s1 ⟨h1, rfl⟩
   obtain rfl := h1.symm
   conv => whnf
   rw [gC]
   repeat (first | (refine Br.no qv ?_; conv => whnf) | ((first | refine Br.y1 ?_ | refine Br.n1 ?_); conv => whnf))
   by_cases i5 : i < 5
   · have q5 : decide ((i : Int) < 5) = true := decide_eq_true (by omega)
     rw [show (decide (i < 5) || i == 9) = true by simp [i5]]
     repeat (first | (refine Br.yes q5 ?_; conv => whnf) | (refine Br.no qv ?_; conv => whnf) | ((first | refine Br.y1 ?_ | refine Br.n1 ?_); conv => whnf))
     refine Om.of (.bool false) (by first | rfl | (rw [q5]; rfl)) ?_
     conv => whnf
     repeat (first | (refine Br.no qv ?_; conv => whnf) | ((first | refine Br.y1 ?_ | refine Br.n1 ?_); conv => whnf))
     refine Sm.live [19, 20, 55] ?_
     conv => whnf
     refine Sm.ofW ?_
     conv => whnf
     repeat ((first | refine Br.y1 ?_ | refine Br.n1 ?_); conv => whnf)
     refine Sm.ofW ?_
     conv => whnf
     exact ⟨i + 1, by (show 13 - (i + 1) < 13 - i); omega, subK_ok (by refine ⟨rfl, congrArg (fun x => some (Value.int .i64 x)) (show IntKind.i64.wrap ((i : Int) + 1) = ((i + 1 : Nat) : Int) by rw [wi64 (by omega) (by omega)]; omega), trivial⟩), by omega, hp.pik (by repeat (first | exact Pik.nil | exact Pik.refl _ | exact Rm.here | apply Rm.there | apply Pik.cons | apply Pik.skip))⟩
   · have q5 : decide ((i : Int) < 5) = false := decide_eq_false (by omega)
     rw [show (decide (i < 5) || i == 9) = ((i : Int) == 9) by rw [Bool.eq_iff_iff]; simp [i5]; omega]
     repeat (first | (refine Br.no q5 ?_; conv => whnf) | (refine Br.no qv ?_; conv => whnf) | ((first | refine Br.y1 ?_ | refine Br.n1 ?_); conv => whnf))
     refine Om.of (.bool false) (by cases ((i : Int) == 9) <;> rfl) ?_
     conv => whnf
     repeat (first | (refine Br.no qv ?_; conv => whnf) | ((first | refine Br.y1 ?_ | refine Br.n1 ?_); conv => whnf))
     refine Sm.live [19, 20, 55] ?_
     conv => whnf
     refine Sm.ofW ?_
     conv => whnf
     repeat ((first | refine Br.y1 ?_ | refine Br.n1 ?_); conv => whnf)
     refine Sm.ofW ?_
     conv => whnf
     exact ⟨i + 1, by (show 13 - (i + 1) < 13 - i); omega, subK_ok (by refine ⟨rfl, congrArg (fun x => some (Value.int .i64 x)) (show IntKind.i64.wrap ((i : Int) + 1) = ((i + 1 : Nat) : Int) by rw [wi64 (by omega) (by omega)]; omega), trivial⟩), by omega, hp.pik (by repeat (first | exact Pik.nil | exact Pik.refl _ | exact Rm.here | apply Rm.there | apply Pik.cons | apply Pik.skip))⟩
 · conv => whnf
   refine Sm.seq ?_
   refine Sm.seqW ?_
   conv => whnf
   refine Sm.live [57, 58] ?_
   conv => whnf
   refine Sm.block ?_
   refine Sm.loop ?_
   refine Lp.ofS (α := Nat) (fun i => [(57, .agg (bdL.map sv).toArray), (58, .int .i64 (i : Int))])
    (fun i s' => i ≤ 16 ∧ Hp (fun _ => False) s0 [] [] s') (fun i => 16 - i) ?_ 0 (subK_ok (by refine ⟨?_, rfl, trivial⟩; kernel_rfl)) ⟨Nat.zero_le _, hp⟩
   clear hp hi hc
   rintro i s ⟨hi, hp⟩
   refine Sm.seqW ?_
   conv => whnf
   refine Sm.live [57, 58, 59] ?_
   conv => whnf
   refine Sm.seq ?_
   refine Sm.ofW ?_
   conv => whnf
   refine Br.mk (fun hc => ?_) (fun hc => ?_)
   · have hc : i < 16 := by have : (i : Int) < 16 := of_decide_eq_true hc; omega
     have h16 : i = 0 ∨ i = 1 ∨ i = 2 ∨ i = 3 ∨ i = 4 ∨ i = 5 ∨ i = 6 ∨ i = 7 ∨ i = 8 ∨ i = 9 ∨ i = 10 ∨ i = 11 ∨ i = 12 ∨ i = 13 ∨ i = 14 ∨ i = 15 := by omega
     obtain ⟨gT, gA, hlen⟩ := bdL_ok ⟨i, hc⟩
     simp only at gT gA hlen
     conv => whnf
     refine Sm.seq ?_
     refine Sm.block ?_
     refine Sm.seqW ?_
     conv => whnf
     refine Om.of (sv (bdL.getD i [])) (by rcases h16 with rfl | rfl | rfl | rfl | rfl | rfl | rfl | rfl | rfl | rfl | rfl | rfl | rfl | rfl | rfl | rfl <;> kernel_rfl) ?_
     conv => whnf
     refine Sm.live [7, 57, 58] ?_
     conv => whnf
     have hasc : ∀ c ∈ bdL.getD i [], c.toNat < 128 := fun c hc => by simpa using List.all_eq_true.1 gA c hc
     generalize bdL.getD i [] = t at *
     refine Sm.seqW ?_
     conv => whnf
     refine hp.call (cread_spec hp.wf (hg.keep hp.fr) t (by omega) (fun _ => hasc)) ?_
     intro r s hr h1 k1
     obtain ⟨w, rfl, how_⟩ := hr
     generalize readC t = A at *
     obtain ⟨κ, hp⟩ := hp.on k1 how_
     clear h1 k1 how_
     obtain ⟨aw, cw, rfl⟩ := (hp.slF (κ := κ) (v := w) .d).shape
     conv => whnf
     refine hp.alloc (cs := Cm.zero.cells nil24) (e := 10) rfl rfl rfl rfl rfl ?_
     clear hp
     intro p8 s hp _
     conv => whnf
     refine hp.storeW (vs := A.1.cells (.slice aw A.1.ls.length cw)) rfl .d csx rfl rfl rfl ?_
     clear hp
     intro s hp _
     conv => whnf
     refine Sm.live [9, 57, 58] ?_
     conv => whnf
     refine Sm.seqW ?_
     conv => whnf
     refine Sm.live [57, 58, 67] ?_
     conv => whnf
     refine Sm.ofW ?_
     conv => whnf
     have e2 : A.2 = 2 := beq_iff_eq.1 gT
     rw [e2]
     repeat ((first | refine Br.y1 ?_ | refine Br.n1 ?_); conv => whnf)
     refine Sm.ofW ?_
     conv => whnf
     exact ⟨i + 1, by (show 16 - (i + 1) < 16 - i); omega, subK_ok (by refine ⟨rfl, congrArg (fun x => some (Value.int .i64 x)) (show IntKind.i64.wrap ((i : Int) + 1) = ((i + 1 : Nat) : Int) by rw [wi64 (by omega) (by omega)]; omega), trivial⟩), by omega, hp.pik (by repeat (first | exact Pik.nil | exact Pik.refl _ | exact Rm.here | apply Rm.there | apply Pik.cons | apply Pik.skip))⟩
   · conv => whnf
     refine Sm.seqW ?_
     conv => whnf
     refine hp.call (cread_spec hp.wf (hg.keep hp.fr) ovT (Nat.le_trans ov_ok.2.2 (by decide)) (fun _ c hc => by simpa using List.all_eq_true.1 ov_ok.2.1 c hc)) ?_
     intro r s hr h1 k1
     obtain ⟨w, rfl, how_⟩ := hr
     rw [beq_iff_eq.1 ov_ok.1]
     generalize (readC ovT).1 = y at *
     obtain ⟨κ, hp⟩ := hp.on k1 how_
     clear h1 k1 how_
     obtain ⟨aw, cw, rfl⟩ := (hp.slF (κ := κ) (v := w) .d).shape
     conv => whnf
     refine hp.alloc (cs := Cm.zero.cells nil24) (e := 10) rfl rfl rfl rfl rfl ?_
     clear hp
     intro p10 s hp _
     conv => whnf
     refine hp.storeW (vs := y.cells (.slice aw y.ls.length cw)) rfl .d csx rfl rfl rfl ?_
     clear hp
     intro s hp _
     conv => whnf
     refine Sm.live [11] ?_
     conv => whnf
     refine Sm.seqW ?_
     conv => whnf
     refine hp.call (cread_spec hp.wf (hg.keep hp.fr) lnT (Nat.le_trans ln_ok2.2.2 (by decide)) (fun h => absurd h ln_ok2.2.1)) ?_
     intro r s hr h1 k1
     obtain ⟨w, rfl, how_⟩ := hr
     rw [beq_iff_eq.1 ln_ok2.1]
     generalize (readC lnT).1 = y at *
     obtain ⟨κ, hp⟩ := hp.on k1 how_
     clear h1 k1 how_
     obtain ⟨aw, cw, rfl⟩ := (hp.slF (κ := κ) (v := w) .d).shape
     conv => whnf
     refine hp.alloc (cs := Cm.zero.cells nil24) (e := 10) rfl rfl rfl rfl rfl ?_
     clear hp
     intro p12 s hp _
     conv => whnf
     refine hp.storeW (vs := y.cells (.slice aw y.ls.length cw)) rfl .d csx rfl rfl rfl ?_
     clear hp
     intro s hp _
     conv => whnf
     refine Sm.live [11, 13] ?_
     conv => whnf
     refine Sm.seqW ?_
     conv => whnf
     refine hp.mks UB rfl 400 rfl rfl (by decide) ?_
     clear hp
     intro b s hp _
     conv => whnf
     refine Om.of _ (string_sl Tryz.underlying59 Tryz.underlying9 Tryz.underlying5 (l := List.replicate 400 0) (hp.blkSl (k := b) (b := b) (n := 400) (C := byteVals (List.replicate 400 0)) (e := 1) .d rfl)) ?_
     conv => whnf
     refine Om.of _ (sv_add [113, 117, 101, 114, 121, 32] (List.replicate 400 0) (by decide)) ?_
     conv => whnf
     refine hp.call (cread_spec hp.wf (hg.keep hp.fr) lgT (Nat.le_trans lg_ok.2.2 (by decide)) (fun h => absurd h lg_ok.2.1)) ?_
     intro r s hr h1 k1
     obtain ⟨w, rfl, how_⟩ := hr
     rw [beq_iff_eq.1 lg_ok.1]
     generalize (readC lgT).1 = y2 at *
     obtain ⟨κ2, hp⟩ := hp.on k1 how_
     clear h1 k1 how_
     obtain ⟨aw2, cw2, rfl⟩ := (hp.slF (κ := κ2) (v := w) .d).shape
     conv => whnf
     refine hp.alloc (cs := Cm.zero.cells nil24) (e := 10) rfl rfl rfl rfl rfl ?_
     clear hp
     intro p14 s hp _
     conv => whnf
     refine hp.storeW (vs := y2.cells (.slice aw2 y2.ls.length cw2)) rfl .d csx rfl rfl rfl ?_
     clear hp
     intro s hp _
     conv => whnf
     refine Sm.live [11, 13, 15] ?_
     conv => whnf
     refine Sm.seqW ?_
     conv => whnf
     refine hp.call (eread_spec hp.wf (hg.keep hp.fr) eT8 (by decide)) ?_
     intro r s hr h1 k1
     obtain ⟨w, rfl, how_⟩ := hr
     obtain ⟨κ3, hp⟩ := hp.on k1 how_
     clear h1 k1 how_
     obtain ⟨a3, c3, rfl⟩ := (hp.slF (κ := κ3) (v := w) .d).shape
     conv => whnf
     refine Sm.live [11, 13, 15, 16] ?_
     conv => whnf
     refine Sm.seqW ?_
     conv => whnf
     refine hp.call (cmknown_spec hp.wf (hg.keep hp.fr) (ht.keep hp.fr)) ?_
     clear hp
     rintro _ s rfl hp _
     conv => whnf
     repeat ((first | refine Br.y1 ?_ | refine Br.n1 ?_); conv => whnf)
     refine hp.call (cprint_spec hp.wf (hg.keep hp.fr) (ht.keep hp.fr) (x := Cm.zero) (by show 0 < w128; decide) (κ := none) (v := nil24) ⟨.inl ⟨rfl, rfl, rfl, rfl⟩⟩ (fun y hy => by cases hy) (Nat.zero_le _) (Nat.zero_le _) (nums3 (by decide)) (fun W h1 h2 h5 => (by obtain rfl := List.length_eq_zero_iff.1 h1; exact absurd h5 (by decide +kernel))) (fun W h1 h2 => readC_c _)) ?_
     clear hp
     rintro _ s ⟨W, hW1, hW2, rfl⟩ hp _
     have hpS : printC W (Cm.zero) = [] := by unfold printC; rw [if_pos (show (shape Cm.zero.v).2 = false by decide)]
     rw [hpS]
     conv => whnf
     repeat ((first | refine Br.y1 ?_ | refine Br.n1 ?_); conv => whnf)
     refine Om.of _ (sv_eq [] []) ?_
     conv => whnf
     rw [beq_self_eq_true]
     repeat ((first | refine Br.y1 ?_ | refine Br.n1 ?_); conv => whnf)
     clear hpS hW1 hW2
     refine hp.call (cprint_spec hp.wf (hg.keep hp.fr) (ht.keep hp.fr) (x := pX 3 0 1 []) (by show 0 < w128; decide) (κ := none) (v := nil24) ⟨.inl ⟨rfl, rfl, rfl, rfl⟩⟩ (fun y hy => by cases hy) (Nat.zero_le _) (Nat.zero_le _) (nums3 (by decide)) (fun W h1 h2 h5 => (by have h := out_verb (x := pX 3 0 1 []) (by decide) W; rw [h5] at h; exact absurd h (by decide))) (fun W h1 h2 => readC_c _)) ?_
     clear hp
     rintro _ s ⟨W, hW1, hW2, rfl⟩ hp _
     have hpS : printC W (pX 3 0 1 []) = [] := by rw [W_00 rfl rfl hW1 hW2]; exact p2_ok
     rw [hpS]
     conv => whnf
     repeat ((first | refine Br.y1 ?_ | refine Br.n1 ?_); conv => whnf)
     refine Om.of _ (sv_eq [] []) ?_
     conv => whnf
     rw [beq_self_eq_true]
     repeat ((first | refine Br.y1 ?_ | refine Br.n1 ?_); conv => whnf)
     clear hpS hW1 hW2
     refine hp.call (cprint_spec hp.wf (hg.keep hp.fr) (ht.keep hp.fr) (x := pX 3 100 0 []) (by show 0 < w128; decide) (κ := none) (v := nil24) ⟨.inl ⟨rfl, rfl, rfl, rfl⟩⟩ (fun y hy => by cases hy) (Nat.zero_le _) (Nat.zero_le _) (by decide) (fun W h1 h2 h5 => (by have h := out_verb (x := pX 3 100 0 []) (by decide) W; rw [h5] at h; exact absurd h (by decide))) (fun W h1 h2 => readC_c _)) ?_
     clear hp
     rintro _ s ⟨W, hW1, hW2, rfl⟩ hp _
     have hpS : printC W (pX 3 100 0 []) = [] := print_out (by decide) (fun h => absurd h.1.2 (by decide)) W
     rw [hpS]
     conv => whnf
     repeat ((first | refine Br.y1 ?_ | refine Br.n1 ?_); conv => whnf)
     refine Om.of _ (sv_eq [] []) ?_
     conv => whnf
     rw [beq_self_eq_true]
     repeat ((first | refine Br.y1 ?_ | refine Br.n1 ?_); conv => whnf)
     clear hpS hW1 hW2
     refine hp.call (cprint_spec hp.wf (hg.keep hp.fr) (ht.keep hp.fr) (x := pX 6 0 0 exL8) (by show 0 < w128; decide) (hp.slF (κ := κ3) (v := .slice a3 exL8.length c3) .d) (readL_mem eT8) (Nat.le_trans (readL_len eT8) (by decide)) (Nat.zero_le _) (nums3 (by decide)) (fun W h1 h2 h5 => (by have h := out_verb (x := pX 6 0 0 exL8) (by decide) W; rw [h5] at h; exact absurd h (by decide))) (fun W h1 h2 => readC_c _)) ?_
     clear hp
     rintro _ s ⟨W, hW1, hW2, rfl⟩ hp _
     have hpS : printC W (pX 6 0 0 exL8) = [] := by rw [W_00 rfl rfl hW1 hW2]; exact p4_ok
     rw [hpS]
     conv => whnf
     repeat ((first | refine Br.y1 ?_ | refine Br.n1 ?_); conv => whnf)
     refine Om.of _ (sv_eq [] []) ?_
     conv => whnf
     rw [beq_self_eq_true]
     repeat ((first | refine Br.y1 ?_ | refine Br.n1 ?_); conv => whnf)
     clear hpS hW1 hW2
     refine hp.call (cprint_spec hp.wf (hg.keep hp.fr) (ht.keep hp.fr) (x := pX 1 0 0 exL8) (by show 0 < w128; decide) (hp.slF (κ := κ3) (v := .slice a3 exL8.length c3) .d) (readL_mem eT8) (Nat.le_trans (readL_len eT8) (by decide)) (Nat.zero_le _) (nums3 (by decide)) (fun W h1 h2 h5 => (by have h := out_verb (x := pX 1 0 0 exL8) (by decide) W; rw [h5] at h; exact absurd h (by decide))) (fun W h1 h2 => readC_c _)) ?_
     clear hp
     rintro _ s ⟨W, hW1, hW2, rfl⟩ hp _
     have hpS : printC W (pX 1 0 0 exL8) = poT := by have := goodT_print p5_g (W := W) (by rw [p5_r]; exact hW1) (by rw [p5_r]; exact hW2); rw [p5_r] at this; exact this
     rw [hpS]
     conv => whnf
     repeat ((first | refine Br.y1 ?_ | refine Br.n1 ?_); conv => whnf)
     refine Om.of _ (sv_eq poT poT) ?_
     conv => whnf
     rw [beq_self_eq_true]
     repeat ((first | refine Br.y1 ?_ | refine Br.n1 ?_); conv => whnf)
     clear hpS hW1 hW2
     refine Sm.live [0] ?_
     conv => whnf
     refine Sm.ofW ?_
     conv => whnf
     exact ⟨rfl⟩
end
end Go.Ev
