/- Rolls: a region is opened. No condition. -/
import Derived.Test.YtfbdnmcncgbifaaR7
noncomputable section
namespace Go.Ev
open Go.Proofs
set_option linter.unusedVariables false
set_option maxRecDepth 100000

theorem wholeF_n {l : List UInt8} {a : Int} {x : Rr} {n : Nat} (h : wholeF l a = some (x, n)) : 20 ≤ n ∧ n ≤ l.length := by
  unfold wholeF at h
  split at h <;> first | contradiction | skip
  simp only at h
  split at h <;> first | contradiction | skip
  split at h <;> first | contradiction | skip
  split at h <;> first | contradiction | skip
  rename_i h1 h2 body rest h3 h4
  injection h with h
  injection h with h5 h6
  subst h6
  omega
/-- The records at the beginning, and how many bytes they have. -/
def parseL : Nat → List UInt8 → Nat → List Rr → List Rr × Nat
  | 0, _, used, l => (l, used)
  | f + 1, b, used, l => match wholeF (b.drop used) used with
    | none => (l, used)
    | some (x, n) => if x.seq ≤ lastF l then (l, used) else parseL f b (used + n) (l ++ [x])
def parseF (b : List UInt8) : List Rr × Nat := parseL (b.length + 1) b 0 []
theorem parseL_le : ∀ (f : Nat) (b : List UInt8) (u : Nat) (l : List Rr), u ≤ b.length → (parseL f b u l).2 ≤ b.length ∧ l.length ≤ (parseL f b u l).1.length ∧ ((parseL f b u l).1.length - l.length) * 20 + u ≤ b.length
  | 0, b, u, l, h => ⟨h, Nat.le_refl _, by show (l.length - l.length) * 20 + u ≤ b.length; omega⟩
  | f + 1, b, u, l, h => by
    unfold parseL
    split
    · exact ⟨h, Nat.le_refl _, by simp; omega⟩
    · rename_i x n hw
      split
      · exact ⟨h, Nat.le_refl _, by simp; omega⟩
      · have hn := wholeF_n hw
        simp at hn
        have ih := parseL_le f b (u + n) (l ++ [x]) (by omega)
        simp only [List.length_append, List.length_singleton] at ih
        omega
/-- What opening answers. -/
inductive OpE where
  | arg | down | ok (ro : RO)
def openF (σ : SL) (at_ size : Int) : OpE × SL :=
  if size < 32 ∨ 8192 < size ∨ at_ < 0 ∨ (σ.b.length : Int) - size < at_ then (.arg, σ)
  else match σ.read at_ size with
    | none => (.down, σ)
    | some b => match zeroF σ (at_ + (parseF b).2) (b.drop (parseF b).2) with
      | (σ', ok) => if ok = true then (.ok ⟨at_.toNat, size.toNat, (parseF b).2, (parseF b).1⟩, σ') else (.down, σ')
section
variable {X : Nat → Prop} {s0 s : St} {R F G H : List At} {p v : Value} {kr br : Nat} {κ : Option Nat} {ro : RO} {ks kb : Nat} {σ : SL}
theorem open_spec (hp : Hp X s0 R F s) {bp : Nat} (h1 : Rm (slabA (.pointer (some ⟨bp, 0, none⟩)) ks kb σ) F G) (at_ size : Int) (ha : inR at_) (hs : inR size)
    {K : Value → St → Prop} (hArg : (openF σ at_ size).1 = .arg → ∀ s', Hp X s0 R (slabA (.pointer (some ⟨bp, 0, none⟩)) ks kb σ :: G) s' → K (.tuple #[.pointer none, .int .i64 1]) s')
    (hDown : (openF σ at_ size).1 = .down → ∀ s', Hp X s0 R (slabA (.pointer (some ⟨bp, 0, none⟩)) ks kb (openF σ at_ size).2 :: G) s' → K (.tuple #[.pointer none, .int .i64 6]) s')
    (hOk : ∀ ro, (openF σ at_ size).1 = .ok ro → ∀ kr br κ v s', Hp X s0 R (blkA kr br (roCells (.pointer (some ⟨bp, 0, none⟩)) ro v) 5 :: onA κ v 2 ro.l.length (rrCells ro.l) :: slabA (.pointer (some ⟨bp, 0, none⟩)) ks kb (openF σ at_ size).2 :: G) s' → K (.tuple #[.pointer (some ⟨br, 0, none⟩), .int .i64 0]) s') :
    Cw Try.prog 9 [.pointer (some ⟨bp, 0, none⟩), .int .i64 at_, .int .i64 size] s K := by
  replace hp : Hp X s0 R (slabA (.pointer (some ⟨bp, 0, none⟩)) ks kb σ :: G) s := hp.pik (.cons h1 (.refl G))
  clear h1
  have hlen := (hp.slab (p := .pointer (some ⟨bp, 0, none⟩)) (ks := ks) (kb := kb) (σ := σ) (by repeat (first | exact Has.here | apply Has.there | (apply Has.swap; repeat (first | exact HasR.here | apply HasR.there))))).len
  obtain ⟨ha1, ha2⟩ := ha
  obtain ⟨hs1, hs2⟩ := hs
  refine Cw.enterS Try.func9 rfl rfl ?_
  refine Sm.seqW ?_
  conv => whnf
  refine Sm.seq ?_
  refine Sm.seqC (fun e L' s' => e = .normal ∧ s' = s ∧ ∃ q, Sub [(0, .pointer (some ⟨bp, 0, none⟩)), (1, .int .i64 at_), (2, .int .i64 size), (36, .bool q)] L' ∧ (q = true ↔ (size < 32 ∨ 8192 < size ∨ at_ < 0 ∨ (σ.b.length : Int) - size < at_))) ?_ ?_
  · conv => whnf
    refine Om.of (.bool false) rfl ?_
    conv => whnf
    repeat (refine Br.no rfl ?_; conv => whnf)
    by_cases c1 : size < 32
    · have d1 : decide (size < 32) = true := decide_eq_true c1
      repeat (first | (refine Br.yes (by first | with_reducible rfl | exact d1) ?_; conv => whnf) | (refine Br.no (by with_reducible rfl) ?_; conv => whnf))
      exact ⟨rfl, rfl, true, subK_ok ⟨rfl, rfl, rfl, rfl, trivial⟩, by simp [c1]⟩
    have d1 : decide (size < 32) = false := decide_eq_false c1
    by_cases c2 : 8192 < size
    · have d2 : decide (size > 8192) = true := decide_eq_true c2
      repeat (first | (refine Br.yes (by first | with_reducible rfl | exact d2) ?_; conv => whnf) | (refine Br.no (by first | with_reducible rfl | exact d1) ?_; conv => whnf))
      exact ⟨rfl, rfl, true, subK_ok ⟨rfl, rfl, rfl, rfl, trivial⟩, by simp [c2]⟩
    have d2 : decide (size > 8192) = false := decide_eq_false c2
    by_cases c3 : at_ < 0
    · have d3 : decide (at_ < 0) = true := decide_eq_true c3
      repeat (first | (refine Br.yes (by first | with_reducible rfl | exact d3) ?_; conv => whnf) | (refine Br.no (by first | with_reducible rfl | exact d1 | exact d2) ?_; conv => whnf))
      exact ⟨rfl, rfl, true, subK_ok ⟨rfl, rfl, rfl, rfl, trivial⟩, by simp [c3]⟩
    have d3 : decide (at_ < 0) = false := decide_eq_false c3
    repeat (first | (refine Br.no (by first | with_reducible rfl | exact d1 | exact d2 | exact d3) ?_; conv => whnf))
    refine (size_spec (hp.slab (p := .pointer (some ⟨bp, 0, none⟩)) (ks := ks) (kb := kb) (σ := σ) (by repeat (first | exact Has.here | apply Has.there | (apply Has.swap; repeat (first | exact HasR.here | apply HasR.there)))))).mono ?_
    rintro _ _ ⟨rfl, rfl⟩
    conv => whnf
    repeat (first | (refine Br.no (by first | with_reducible rfl | exact d1 | exact d2 | exact d3) ?_; conv => whnf))
    refine ⟨rfl, rfl, _, subK_ok ⟨rfl, rfl, rfl, rfl, trivial⟩, ?_⟩
    rw [wi64 (by omega) (by omega), decide_eq_true_eq]
    simp [c1, c2, c3]
  rintro e L' s' ⟨rfl, rfl, q, hsub, hq⟩
  refine Sm.weak _ hsub ?_
  clear hsub
  refine Sm.ofW ?_
  conv => whnf
  cases q with
  | true =>
    refine Br.yes rfl ?_
    conv => whnf
    exact ⟨hArg (by unfold openF; rw [if_pos (hq.1 rfl)]) _ hp⟩
  | false =>
    have hc : ¬ (size < 32 ∨ 8192 < size ∨ at_ < 0 ∨ (σ.b.length : Int) - size < at_) := fun h => by have := hq.2 h; cases this
    clear hArg
    refine Br.no rfl ?_
    conv => whnf
    refine Sm.live [0, 1, 2] ?_
    conv => whnf
    refine Sm.seqW ?_
    conv => whnf
    refine hp.sRead (by repeat (first | exact Has.here | apply Has.there | (apply Has.swap; repeat (first | exact HasR.here | apply HasR.there)))) at_ size ?_ ?_
    · intro hr
      have hO : openF σ at_ size = (.down, σ) := by unfold openF; rw [if_neg hc, hr]
      rw [hO] at hDown
      conv => whnf
      refine Sm.seq ?_
      refine Sm.ofW ?_
      conv => whnf
      refine Br.yes rfl ?_
      conv => whnf
      exact ⟨hDown rfl _ hp⟩
    · intro b vb κb s1 hr hp1 _
      clear hp
      have hO : openF σ at_ size = (match zeroF σ (at_ + (parseF b).2) (b.drop (parseF b).2) with
        | (σ', ok) => if ok = true then (.ok ⟨at_.toNat, size.toNat, (parseF b).2, (parseF b).1⟩, σ') else (.down, σ')) := by unfold openF; rw [if_neg hc, hr]
      have hbl : b.length = size.toNat := by
        unfold SL.read at hr
        split at hr <;> first | contradiction | skip
        injection hr with hr
        rw [← hr]; simp; omega
      replace hp := hp1.iceO (by repeat (first | exact Rm.here | apply Rm.there))
      obtain ⟨ab, cb, rfl⟩ := (hp.slR .here).shape
      clear hp1
      conv => whnf
      refine Sm.seq ?_
      refine Sm.seqW ?_
      conv => whnf
      refine Sm.ofW ?_
      conv => whnf
      refine Br.no rfl ?_
      conv => whnf
      refine Sm.live [0, 1, 2, 8] ?_
      conv => whnf
      refine Sm.seqW ?_
      conv => whnf
      refine hp.var (cs := [.pointer (some ⟨bp, 0, none⟩), .int .i64 at_, .int .i64 size, .int .i64 0, .slice none 0 0]) (e := 5) rfl rfl ?_
      clear hp
      intro br s hp _
      conv => whnf
      refine Sm.live [8, 10] ?_
      conv => whnf
      obtain ⟨A, rfl⟩ : ∃ A : Nat, at_ = (A : Int) := ⟨at_.toNat, by omega⟩
      obtain ⟨Z, rfl⟩ : ∃ Z : Nat, size = (Z : Int) := ⟨size.toNat, by omega⟩
      simp only [Int.toNat_natCast] at hbl hO
      have hp0 : Hp X s0 (slA κb (.slice ab b.length cb) 1 b.length (byteVals b) :: R) (blkA br br (roCells (.pointer (some ⟨bp, 0, none⟩)) ⟨A, Z, 0, []⟩ (.slice none 0 0)) 5 :: onA none (.slice none 0 0) 2 0 (rrCells []) :: slabA (.pointer (some ⟨bp, 0, none⟩)) ks kb σ :: G) s :=
        (hp.push (a := onA none (.slice none 0 0) 2 0 (rrCells [])) (.refl hp.wf) ⟨.inl ⟨rfl, rfl, rfl, rfl⟩⟩ fun j hj => by cases hj).pik (by repeat (first | exact Pik.nil | exact Pik.refl _ | exact Rm.here | apply Rm.there | apply Pik.cons | apply Pik.skip))
      clear hp
      refine Sm.seq ?_
      refine Sm.block ?_
      refine Sm.loop ?_
      refine Lp.ofS (α := Nat × List Rr × Option Nat × Value × Nat) (fun x => [(8, .slice ab b.length cb), (10, .pointer (some ⟨br, 0, none⟩))])
        (fun x s' => x.1 ≤ b.length ∧ b.length < x.2.2.2.2 + x.1 ∧ x.2.1.length * 20 ≤ x.1 ∧ Hp X s0 (slA κb (.slice ab b.length cb) 1 b.length (byteVals b) :: R) (blkA br br (roCells (.pointer (some ⟨bp, 0, none⟩)) ⟨A, Z, x.1, x.2.1⟩ x.2.2.2.1) 5 :: onA x.2.2.1 x.2.2.2.1 2 x.2.1.length (rrCells x.2.1) :: slabA (.pointer (some ⟨bp, 0, none⟩)) ks kb σ :: G) s' ∧
          parseF b = parseL x.2.2.2.2 b x.1 x.2.1) (fun x => b.length - x.1) ?_ (0, [], none, .slice none 0 0, b.length + 1) (subK_ok (by refine ⟨rfl, rfl, trivial⟩)) ⟨Nat.zero_le _, by simp only; omega, by simp, hp0, rfl⟩
      clear hp0
      rintro ⟨u, l, κl, vl, f⟩ s ⟨hu, hf, hlu, hp, hpf⟩
      simp only at hu hf hlu hp hpf
      obtain ⟨al, cl, rfl⟩ := (hp.slF (κ := κl) (by repeat (first | exact Rm.here | apply Rm.there))).shape
      obtain ⟨f, rfl⟩ : ∃ g, f = g + 1 := ⟨f - 1, by omega⟩
      have hun : parseL (f + 1) b u l = (match wholeF (b.drop u) u with
        | none => (l, u)
        | some (x, n) => if x.seq ≤ lastF l then (l, u) else parseL f b (u + n) (l ++ [x])) := rfl
      refine Sm.block ?_
      refine Sm.seqC (fun e L' s' => e = .normal ∧ ∃ (x : Rr) (n : Nat) (is : Bool) (b1 : Nat), Hp X s0 (slA κb (.slice ab b.length cb) 1 b.length (byteVals b) :: R) (blkA b1 b1 (Rr.cells x) 2 :: blkA br br (roCells (.pointer (some ⟨bp, 0, none⟩)) ⟨A, Z, u, l⟩ (.slice al l.length cl)) 5 :: onA κl (.slice al l.length cl) 2 l.length (rrCells l) :: slabA (.pointer (some ⟨bp, 0, none⟩)) ks kb σ :: G) s' ∧
        Sub [(8, .slice ab b.length cb), (10, .pointer (some ⟨br, 0, none⟩)), (11, .pointer (some ⟨b1, 0, none⟩)), (12, .int .i64 (n : Int)), (13, .bool is)] L' ∧ ((is = false ∧ wholeF (b.drop u) u = none) ∨ (is = true ∧ wholeF (b.drop u) u = some (x, n)))) ?_ ?_
      · conv => whnf
        refine ⟨[0, 0, 2, 6, 14, 31, 0, 64, 192, 448, 1023, 2047, 4095, 4095, 4095, 0, 40959, 114687, 262143], by decide +kernel, by decide +kernel, ?_⟩
        conv => whnf
        (refine hp.load (by repeat (first | exact Has.here | apply Has.there | (apply Has.swap; repeat (first | exact HasR.here | apply HasR.there)))) (by rfl) rfl rfl rfl ?_; conv => whnf)
        obtain ⟨w1, f1, hw1⟩ := slice_from (hp.slR .here) .i64 (n := u) hu
        refine Om.of w1 f1 ?_
        conv => whnf
        (refine hp.load (by repeat (first | exact Has.here | apply Has.there | (apply Has.swap; repeat (first | exact HasR.here | apply HasR.there)))) (by rfl) rfl rfl rfl ?_; conv => whnf)
        refine (whole_spec hp.rst.wf hw1.reset (by simp; omega) (u : Int)).mono ?_
        clear f1 hw1
        rintro _ s1 ⟨k1, ⟨hw, q, rfl, rfl⟩ | ⟨x, n, hw, rfl⟩⟩
        · conv => whnf
          refine hp.dkN (hp.rst.k0 k1) k1 ?_
          clear hp k1
          intro s hp
          conv => whnf
          refine hp.rst.alloc (cs := Rr.cells ⟨0, ⟨#[]⟩⟩) (e := 2) rfl rfl rfl rfl rfl ?_
          intro b1 s1 h1 k1
          conv => whnf
          refine hp.dkN h1 k1 ?_
          clear hp h1 k1
          intro s hp
          conv => whnf
          refine hp.rst.storeW (vs := Rr.cells ⟨0, ⟨#[]⟩⟩) rfl (by repeat (first | exact Rm.here | apply Rm.there)) (by rfl) rfl rfl rfl ?_
          intro s1 h1 l1
          conv => whnf
          refine hp.dkW h1 l1 ?_
          clear hp h1 l1
          intro s hp
          conv => whnf
          exact ⟨rfl, _, 0, false, b1, hp.pik (by repeat (first | exact Pik.nil | exact Pik.refl _ | exact Rm.here | apply Rm.there | apply Pik.cons | apply Pik.skip)), subK_ok ⟨rfl, rfl, rfl, rfl, rfl, trivial⟩, .inl ⟨rfl, hw⟩⟩
        · conv => whnf
          refine hp.dkN (hp.rst.k0 k1) k1 ?_
          clear hp k1
          intro s hp
          conv => whnf
          refine hp.rst.alloc (cs := Rr.cells ⟨0, ⟨#[]⟩⟩) (e := 2) rfl rfl rfl rfl rfl ?_
          intro b1 s1 h1 k1
          conv => whnf
          refine hp.dkN h1 k1 ?_
          clear hp h1 k1
          intro s hp
          conv => whnf
          refine hp.rst.storeW (vs := x.cells) (C := Rr.cells ⟨0, ⟨#[]⟩⟩) rfl (by repeat (first | exact Rm.here | apply Rm.there)) (by rfl) rfl rfl rfl ?_
          intro s1 h1 l1
          conv => whnf
          refine hp.dkW h1 l1 ?_
          clear hp h1 l1
          intro s hp
          conv => whnf
          exact ⟨rfl, x, n, true, b1, hp.pik (by repeat (first | exact Pik.nil | exact Pik.refl _ | exact Rm.here | apply Rm.there | apply Pik.cons | apply Pik.skip)), subK_ok ⟨rfl, rfl, rfl, rfl, rfl, trivial⟩, .inr ⟨rfl, hw⟩⟩
      clear hp
      rintro e L' s ⟨rfl, x, n, is, b1, hp, hsub, hwh⟩
      refine Sm.weak _ hsub ?_
      clear hsub
      refine Sm.seq ?_
      refine Sm.seqC (fun e L' s' => e = .normal ∧ ∃ q, Hp X s0 (slA κb (.slice ab b.length cb) 1 b.length (byteVals b) :: R) (blkA b1 b1 (Rr.cells x) 2 :: blkA br br (roCells (.pointer (some ⟨bp, 0, none⟩)) ⟨A, Z, u, l⟩ (.slice al l.length cl)) 5 :: onA κl (.slice al l.length cl) 2 l.length (rrCells l) :: slabA (.pointer (some ⟨bp, 0, none⟩)) ks kb σ :: G) s' ∧
        Sub [(8, .slice ab b.length cb), (10, .pointer (some ⟨br, 0, none⟩)), (11, .pointer (some ⟨b1, 0, none⟩)), (12, .int .i64 (n : Int)), (74, .bool q)] L' ∧ ((q = true ∧ parseL (f + 1) b u l = (l, u)) ∨ (q = false ∧ wholeF (b.drop u) u = some (x, n) ∧ parseL (f + 1) b u l = parseL f b (u + n) (l ++ [x])))) ?_ ?_
      · conv => whnf
        refine ⟨[0, 1, 3, 7, 15, 7, 39, 127, 255], by decide +kernel, by decide +kernel, ?_⟩
        conv => whnf
        rcases hwh with ⟨rfl, hw⟩ | ⟨rfl, hw⟩
        · rw [hw] at hun
          repeat (refine Br.yes rfl ?_; conv => whnf)
          exact ⟨rfl, true, hp, subK_ok ⟨rfl, rfl, rfl, rfl, rfl, trivial⟩, .inl ⟨rfl, hun⟩⟩
        · rw [hw] at hun
          simp only at hun
          repeat (refine Br.no rfl ?_; conv => whnf)
          (refine hp.load (by repeat (first | exact Has.here | apply Has.there | (apply Has.swap; repeat (first | exact HasR.here | apply HasR.there)))) (by rfl) rfl rfl rfl ?_; conv => whnf)
          repeat (refine Br.no rfl ?_; conv => whnf)
          refine (last_spec hp.rst (ro := ⟨A, Z, u, l⟩) (v := .slice al l.length cl) (κ := κl) (by repeat (first | exact Has.here | apply Has.there | (apply Has.swap; repeat (first | exact HasR.here | apply HasR.there)))) (hp.rst.slF (by repeat (first | exact Rm.here | apply Rm.there))) (by show l.length ≤ 100000; omega)).mono ?_
          rintro _ _ ⟨rfl, rfl⟩
          conv => whnf
          refine hp.dkS ?_
          conv => whnf
          repeat (refine Br.no rfl ?_; conv => whnf)
          refine ⟨rfl, _, hp, subK_ok ⟨rfl, rfl, rfl, rfl, rfl, trivial⟩, ?_⟩
          by_cases hseq : x.seq ≤ lastF l
          · rw [if_pos hseq] at hun
            exact .inl ⟨decide_eq_true hseq, hun⟩
          · rw [if_neg hseq] at hun
            exact .inr ⟨decide_eq_false hseq, hw, hun⟩
      clear hp
      rintro e L' s ⟨rfl, q, hp, hsub, hq2⟩
      refine Sm.weak _ hsub ?_
      clear hsub
      refine Sm.ofW ?_
      conv => whnf
      rcases hq2 with ⟨rfl, hq2⟩ | ⟨rfl, hw, hq2⟩
      · -- no more of them
        rw [hq2] at hpf
        rw [hpf] at hO
        refine Br.yes rfl ?_
        conv => whnf
        refine Sm.live [8, 10] ?_
        conv => whnf
        refine Sm.seq ?_
        refine Sm.seqW ?_
        conv => whnf
        (refine hp.load (by repeat (first | exact Has.here | apply Has.there | (apply Has.swap; repeat (first | exact HasR.here | apply HasR.there)))) (by rfl) rfl rfl rfl ?_; conv => whnf)
        obtain ⟨w1, f1, hw1⟩ := slice_from (hp.slR .here) .i64 (n := u) hu
        refine Om.of w1 f1 ?_
        conv => whnf
        have hp2 := hp.view (a' := slA κb w1 1 (b.drop u).length (byteVals (b.drop u))) .here hw1 fun j hj => hj
        clear hp
        refine zeroed_spec hp2 (ro := ⟨A, Z, u, l⟩) (v := .slice al l.length cl) (p := .pointer (some ⟨bp, 0, none⟩)) (ks := ks) (kb := kb) (σ := σ) (κb := κb) (l := b.drop u) (by repeat (first | exact Rm.here | apply Rm.there)) (by repeat (first | exact Rm.here | apply Rm.there)) (by show A ≤ 65536; omega) (by show u ≤ 8192; omega) .here (by simp; omega) ?_
        intro s hp
        conv => whnf
        refine Sm.live [10, 14] ?_
        conv => whnf
        cases hz : (zeroF σ ((A : Int) + (u : Int)) (b.drop u)).2 with
        | false =>
          rw [hz] at hO
          rw [hO] at hDown
          refine Sm.ofW ?_
          conv => whnf
          refine Br.yes rfl ?_
          conv => whnf
          refine ⟨hDown rfl _ ?_⟩
          have := hp.pikR (R' := R) (.skip (.skip (.refl R)))
          exact this.pik (by repeat (first | exact Pik.nil | exact Pik.refl _ | exact Rm.here | apply Rm.there | apply Pik.cons | apply Pik.skip))
        | true =>
          rw [hz] at hO
          rw [hO] at hOk
          refine Sm.ofW ?_
          conv => whnf
          refine Br.no rfl ?_
          conv => whnf
          refine Sm.ofW ?_
          conv => whnf
          refine ⟨hOk _ rfl br br κl (.slice al l.length cl) _ ?_⟩
          have := hp.pikR (R' := R) (.skip (.skip (.refl R)))
          exact this.pik (by repeat (first | exact Pik.nil | exact Pik.refl _ | exact Rm.here | apply Rm.there | apply Pik.cons | apply Pik.skip))
      · -- one more
        have hn := wholeF_n hw
        simp at hn
        refine Br.no rfl ?_
        conv => whnf
        refine Sm.live [8, 10, 11, 12] ?_
        conv => whnf
        refine Sm.seqW ?_
        conv => whnf
        refine ⟨[0, 0, 2, 6, 14, 0, 32, 126, 255, 511, 1023], by decide +kernel, by decide +kernel, ?_⟩
        conv => whnf
        (refine hp.load (by repeat (first | exact Has.here | apply Has.there | (apply Has.swap; repeat (first | exact HasR.here | apply HasR.there)))) (by rfl) rfl rfl rfl ?_; conv => whnf)
        refine hp.loadA (l := x.cells) (by repeat (first | exact Has.here | apply Has.there | (apply Has.swap; repeat (first | exact HasR.here | apply HasR.there)))) rfl (by rfl) rfl rfl ?_
        conv => whnf
        refine hp.rst.rec2 x ?_
        intro v7 b9 s7 h7 k7
        conv => whnf
        refine hp.dkN h7 k7 ?_
        clear hp h7 k7
        intro s7 hp
        conv => whnf
        have x7 : Srr (reset s7) (some b9) v7 [x] := Own.sl (hp.rst.okF _ List.mem_cons_self)
        refine hp.rst.app R39 Try.underlying39 rfl (by repeat (first | exact Rm.here | apply Rm.there)) (elems_sl x7) rfl (rrCells_one [x]) (by simp only [List.length_singleton]; omega) ?_
        intro v9 κ9 s9 h9
        rw [← rrCells_append] at h9
        conv => whnf
        obtain ⟨a9, c9, rfl⟩ := (h9.slF (by repeat (first | exact Rm.here | apply Rm.there))).shape
        refine hp.dkA h9 ?_ ?_
        all_goals
          clear hp h9 x7
          intro s hp
          conv => whnf
          (refine hp.rst.store (by repeat (first | exact Rm.here | apply Rm.there)) (by first | exact of_decide_eq_true rfl | (simp; done) | (simp; omega) | omega) rfl rfl rfl rfl ?_; intro s1 h1 l1; (conv => whnf); refine hp.dkW h1 l1 ?_; clear h1 l1; intro s hp; conv => whnf)
          refine Sm.live [8, 10, 12] ?_
          conv => whnf
          refine Sm.ofW ?_
          conv => whnf
          (refine hp.load (by repeat (first | exact Has.here | apply Has.there | (apply Has.swap; repeat (first | exact HasR.here | apply HasR.there)))) (by rfl) rfl rfl rfl ?_; conv => whnf)
          (refine hp.store (by repeat (first | exact Rm.here | apply Rm.there)) (by first | exact of_decide_eq_true rfl | (simp; done) | (simp; omega) | omega) rfl rfl rfl rfl ?_; intro s hp _; conv => whnf)
          have e2 : IntKind.i64.wrap ((u : Int) + (n : Int)) = ((u + n : Nat) : Int) := by
            rw [wi64 (by omega) (by omega)]; push_cast; rfl
          rw [e2] at hp
          have hq : (l ++ [x]).length = l.length + 1 := by simp
          refine ⟨(u + n, l ++ [x], κ9, .slice a9 (l.length + 1) c9, f), by (show b.length - (u + n) < b.length - u); omega, subK_ok (by refine ⟨rfl, rfl, trivial⟩), by (show u + n ≤ b.length); omega, by (show b.length < f + (u + n)); omega, by (show (l ++ [x]).length * 20 ≤ u + n); omega, ?_, hpf.trans hq2⟩
          simp only [hq]
          exact hp.pik (by repeat (first | exact Pik.nil | exact Pik.refl _ | exact Rm.here | apply Rm.there | apply Pik.cons | apply Pik.skip))
end
end Go.Ev
