/- Rolls: what is laid down, the last one, what is left, the records. No condition. -/
import Derived.Test.YtfbdnmcncgbifaaR4
import Derived.Test.YtfbdnmcncgbifaaB3r
noncomputable section
namespace Go.Ev
open Go.Proofs
set_option linter.unusedVariables false
set_option maxRecDepth 100000

def slabA (p : Value) (ks kb : Nat) (σ : SL) : At where
  foot := fun j => j = ks ∨ j = kb
  ok := fun s => SlabAt s p ks kb σ
  keep := fun _ _ _ hk hX h => h.keep hk (hX ks (.inl rfl)) (hX kb (.inr rfl))
  lt := fun s wf h j hj => by
    have := h.lt wf
    rcases hj with rfl | rfl
    · exact this.1
    · exact this.2
  lo := fun s m h => by
    obtain ⟨bs, bb, rfl, g1, g2⟩ := h.ex
    exact ⟨h.ne, h.len, bs, bb, rfl, g1.lo m, g2.lo m⟩
section
variable {X : Nat → Prop} {s0 s : St} {R F G H : List At} {p : Value} {ks kb : Nat} {σ : SL}
theorem Hp.slab (hp : Hp X s0 R F s) (m : Has (slabA p ks kb σ) F R) : SlabAt s p ks kb σ := hp.at m
theorem Hp.sNew (hp : Hp X s0 R F s) (n : Int) {K : Value → St → Prop} (k : ∀ b ks kb s', Hp X s0 R (slabA (.pointer (some ⟨b, 0, none⟩)) ks kb ⟨List.replicate (max 1 (min n 65536)).toNat 0, 0, 0, 0, false, false⟩ :: F) s' → K0 s s' → K (.pointer (some ⟨b, 0, none⟩)) s') :
    Cw Try.prog 8 [.int .i64 n] s K :=
  (new_spec hp.wf n).mono fun r s' ⟨k1, ks, kb, h1, h2, h3⟩ => by
    obtain ⟨bs, bb, rfl, _⟩ := h3.ex
    refine k bs ks kb s' (hp.push k1 h3 ?_) k1
    rintro j (rfl | rfl)
    · exact h1
    · exact h2
theorem Hp.sWrite (hp : Hp X s0 R F s) (r : Rm (slabA p ks kb σ) F G) (at_ : Int) {κ : Option Nat} {v : Value} {l : List UInt8} (m : Has (onA κ v 1 l.length (byteVals l)) G R) {K : Value → St → Prop}
    (k : ∀ s', Hp X s0 R (slabA p ks kb (σ.write at_ l).1 :: G) s' → K (.bool (σ.write at_ l).2) s') : Cw Try.prog 16 [p, .int .i64 at_, v] s K := by
  have hS : SlabAt s p ks kb σ := hp.okF _ r.sub.1
  have hdj : ∀ j, κ = some j → j ≠ ks ∧ j ≠ kb := by
    intro j hj
    have : ∀ q, (q = ks ∨ q = kb) → ¬ (κ = some q) := by
      rcases m.mem with g | g
      · exact (r.dj hp.dj).1 _ g
      · exact fun q hq => hp.dr _ r.sub.1 _ g q hq
    exact ⟨fun h => this ks (.inl rfl) (h ▸ hj), fun h => this kb (.inr rfl) (h ▸ hj)⟩
  have ho : OwnO s κ v 1 l.length (byteVals l) := by
    rcases m.mem with g | g
    · exact hp.okF _ (r.sub.2 _ g)
    · exact hp.okR _ g
  refine (write_spec hp.wf hS at_ (Sb.of ho.sl) hdj).mono fun v s' ⟨k1, hv, h1⟩ => ?_
  subst hv
  exact k s' (hp.upd r k1 (fun j hj => .inl hj) h1 fun j hj => .inl hj)
theorem Hp.sRead (hp : Hp X s0 R F s) (m : Has (slabA p ks kb σ) F R) (at_ n : Int) {K : Value → St → Prop}
    (k1 : σ.read at_ n = none → K (.tuple #[.slice none 0 0, .bool false]) s) (k : ∀ l v κ s', σ.read at_ n = some l → Hp X s0 R (onA κ v 1 l.length (byteVals l) :: F) s' → K0 s s' → K (.tuple #[v, .bool true]) s') :
    Cw Try.prog 15 [p, .int .i64 at_, .int .i64 n] s K := by
  have hS : SlabAt s p ks kb σ := hp.at m
  cases hr : σ.read at_ n with
  | none =>
    have hno := SL.has_iff (σ := σ) (a := at_) (n := n)
    -- not there: nothing is touched
    obtain ⟨bs, bb, rfl, g1, g2⟩ := hS.ex
    have hh : σ.has at_ n = false := by
      cases hq : σ.has at_ n with
      | false => rfl
      | true => simp [SL.read, hq] at hr
    refine Cw.enter Try.func15 rfl rfl ?_
    conv => whnf
    refine (has_spec hS at_ n).mono ?_
    rintro r s' ⟨rfl, rfl⟩
    rw [hh]
    conv => whnf
    refine Br.yes rfl ?_
    conv => whnf
    exact ⟨k1 hr⟩
  | some l =>
    refine (read_spec hp.wf hS at_ n).mono fun v s' ⟨h1, h2⟩ => ?_
    rcases h2 with ⟨h2, _⟩ | ⟨l', w, h2, rfl, o⟩
    · rw [hr] at h2; cases h2
    · rw [hr] at h2; injection h2 with h2; subst h2
      obtain ⟨κ, h3⟩ := hp.on h1 o
      exact k l w κ s' hr h3 h1
theorem Hp.sCut (hp : Hp X s0 R F s) (r : Rm (slabA p ks kb σ) F G) (n torn : Int) {K : Value → St → Prop} (k : ∀ v s', Hp X s0 R (slabA p ks kb { σ with left := n, torn := torn, limits := decide (n ≥ 0) } :: G) s' → K v s') :
    Cw Try.prog 18 [p, .int .i64 n, .int .i64 torn] s K :=
  (cut_spec hp.wf (hp.okF _ r.sub.1 : SlabAt s p ks kb σ) n torn).mono fun v s' ⟨k1, h1⟩ => k v s' (hp.upd r k1 (fun j hj => .inl (.inl hj)) h1 fun j hj => .inl hj)
theorem Hp.sRevive (hp : Hp X s0 R F s) (r : Rm (slabA p ks kb σ) F G) {K : Value → St → Prop} (k : ∀ v s', Hp X s0 R (slabA p ks kb { σ with dead := false, limits := false } :: G) s' → K v s') :
    Cw Try.prog 19 [p] s K :=
  (revive_spec hp.wf (hp.okF _ r.sub.1 : SlabAt s p ks kb σ)).mono fun v s' ⟨k1, h1⟩ => k v s' (hp.upd r k1 (fun j hj => .inl (.inl hj)) h1 fun j hj => .inl hj)
end

theorem R39 : SlT Try.prog 39 42 2 24 (.agg #[.int .i64 0, .string ⟨#[]⟩]) := ⟨Try.underlying39, ⟨_, rfl, rfl, rfl, rfl⟩, rfl, rfl, by decide, by decide⟩
def rrCells (l : List Rr) : List Value := l.flatMap Rr.cells
theorem rrCells_length (l : List Rr) : (rrCells l).length = l.length * 2 := by
  induction l with
  | nil => rfl
  | cons r l ih =>
    show (Rr.cells r ++ rrCells l).length = _
    rw [List.length_append, ih]; simp [Rr.cells]; omega
theorem rrCells_one (l : List Rr) : (rrCells l).all (·.oneCell') = true := by
  rw [List.all_eq_true]
  intro x hx
  obtain ⟨r, _, hr⟩ := List.mem_flatMap.1 hx
  simp only [Rr.cells, List.mem_cons, List.not_mem_nil, or_false] at hr
  rcases hr with rfl | rfl <;> rfl
theorem rrCells_append (a b : List Rr) : rrCells (a ++ b) = rrCells a ++ rrCells b := by simp [rrCells]
theorem rrCells_drop (l : List Rr) (i : Nat) : (rrCells l).drop (i * 2) = rrCells (l.drop i) := by
  induction i generalizing l with
  | zero => simp
  | succ i ih =>
    cases l with
    | nil => simp [rrCells]
    | cons r l =>
      show (Rr.cells r ++ rrCells l).drop _ = _
      rw [show (i + 1) * 2 = 2 + i * 2 by omega, ← List.drop_drop]
      show ((rrCells l).drop (i * 2)) = _
      rw [ih]; rfl
theorem rr_cell {l : List Rr} {i j : Nat} (h : i < l.length) (hj : j < 2) : (rrCells l)[i * 2 + j]? = l[i].cells[j]? := by
  have h4 : j < l[i].cells.length := hj
  rw [← List.getElem?_drop, rrCells_drop, List.drop_eq_getElem_cons h]
  show (l[i].cells ++ rrCells (l.drop (i + 1)))[j]? = _
  rw [List.getElem?_append_left h4]
abbrev Srr (s : St) (κ : Option Nat) (v : Value) (l : List Rr) : Prop := Sl s κ v 2 l.length (rrCells l)
/-- A field of an element. -/
theorem fld_at {P : Program} {t et sz by_ : Nat} {z : Value} (T : SlT P t et sz by_ z) {s : St} {κ : Option Nat} {v : Value} {n i : Nat} {cs : List Value} (h : Sl s κ v sz n cs) (k : IntKind) (hi : i < n) :
    ∃ b off C, evIndexAddr P t v (.int k (i : Int)) = some (.pointer (some ⟨b, off, none⟩)) ∧ s.rd b = some C ∧ ∀ j, j < sz → C[off + j]? = cs[i * sz + j]? := by
  rcases h.ex with ⟨rfl, rfl, rfl, rfl⟩ | ⟨b, off, c, C, rfl, hc, hl, hs, hm⟩
  · omega
  · have hr : s.rd b = some C := by
      rcases hm with ⟨k, _, hm⟩ | ⟨_, hm⟩
      · exact hm.rd
      · exact hm.rd
    have hle : i * sz + sz ≤ n * sz := by
      have : (i + 1) * sz ≤ n * sz := Nat.mul_le_mul_right _ hi
      rw [Nat.add_mul, Nat.one_mul] at this; exact this
    refine ⟨b, off + i * sz, C, idx_at T k hi, hr, fun j hj => ?_⟩
    obtain ⟨g1, g2, g3, g4⟩ := sl_some hs
    have hlt : i * sz + j < cs.length := by omega
    have := g4 (i * sz + j) _ (List.getElem?_eq_getElem hlt)
    rw [List.getElem?_eq_getElem hlt, ← this]
    congr 1; omega
def lastF (l : List Rr) : Int := match l.getLast? with
  | none => 0
  | some r => r.seq
/-- A roll: where, how large, how much is used, its records. -/
structure RO where
  at_ : Nat
  size : Nat
  used : Nat
  l : List Rr
def roCells (p : Value) (ro : RO) (v : Value) : List Value := [p, .int .i64 ro.at_, .int .i64 ro.size, .int .i64 ro.used, v]
section
variable {X : Nat → Prop} {s0 s : St} {R F G H : List At} {p v : Value} {kr br : Nat} {κ : Option Nat} {ro : RO}
theorem last_spec (hp : Hp X s0 R F s) (m : Has (blkA kr br (roCells p ro v) 5) F R) (hv : Srr s κ v ro.l) (hl : ro.l.length ≤ 100000) :
    Cw Try.prog 30 [.pointer (some ⟨br, 0, none⟩)] s fun r s' => s' = s ∧ r = .int .i64 (lastF ro.l) := by
  obtain ⟨a, c, rfl⟩ := hv.shape
  refine Cw.enterS Try.func30 rfl rfl ?_
  refine Sm.seqW ?_
  conv => whnf
  refine Sm.seq ?_
  refine Sm.seqW ?_
  conv => whnf
  refine hp.load m rfl rfl rfl rfl ?_
  conv => whnf
  refine Sm.ofW ?_
  conv => whnf
  refine Br.mk (fun hq => ?_) (fun hq => ?_)
  · have hq : ro.l.length = 0 := by have := eq_of_beq hq; omega
    conv => whnf
    have : lastF ro.l = 0 := by rw [List.length_eq_zero_iff.1 hq]; rfl
    rw [this]
    exact ⟨rfl, rfl⟩
  · have hq : ro.l.length ≠ 0 := by have := beq_eq_false_iff_ne.1 hq; omega
    conv => whnf
    refine Sm.ofW ?_
    conv => whnf
    refine ⟨[0, 1, 3, 7, 0, 16, 48, 112, 240, 496, 1023, 2047, 4095, 8191], by decide +kernel, by decide +kernel, ?_⟩
    conv => whnf
    refine hp.load m rfl rfl rfl rfl ?_
    conv => whnf
    refine hp.load m rfl rfl rfl rfl ?_
    conv => whnf
    have e1 : IntKind.i64.wrap ((ro.l.length : Int) - 1) = ((ro.l.length - 1 : Nat) : Int) := by rw [wi64 (by omega) (by omega)]; omega
    rw [e1]
    obtain ⟨b, off, C, i1, i2, i3⟩ := fld_at R39 hv .i64 (i := ro.l.length - 1) (by omega)
    refine Om.of _ i1 ?_
    conv => whnf
    have hlast : C[off + 0]? = some (.int .i64 (lastF ro.l)) := by
      rw [i3 0 (by decide), rr_cell (by omega) (by decide)]
      have : lastF ro.l = (ro.l[ro.l.length - 1]'(by omega)).seq := by
        unfold lastF
        rw [List.getLast?_eq_getElem?, List.getElem?_eq_getElem (by omega)]
      rw [this]; rfl
    refine Om.of _ (load_cell Try.underlying3 rfl rfl i2 hlast) ?_
    conv => whnf
    exact ⟨rfl, rfl⟩
theorem left_spec (hp : Hp X s0 R F s) (m : Has (blkA kr br (roCells p ro v) 5) F R) (h1 : ro.size ≤ 65536) (h2 : ro.used ≤ 65536) :
    Cw Try.prog 13 [.pointer (some ⟨br, 0, none⟩)] s fun r s' => s' = s ∧ r = .int .i64 ((ro.size : Int) - ro.used) := by
  refine Cw.enterS Try.func13 rfl rfl ?_
  refine Sm.seqW ?_
  conv => whnf
  refine Sm.seq ?_
  refine Sm.seqW ?_
  conv => whnf
  refine Om.of (.bool false) rfl ?_
  conv => whnf
  refine Sm.ofW ?_
  conv => whnf
  refine Br.no rfl ?_
  conv => whnf
  refine Sm.ofW ?_
  conv => whnf
  refine ⟨[0, 1, 3, 7, 0, 16, 48, 112, 255, 511], by decide +kernel, by decide +kernel, ?_⟩
  conv => whnf
  refine hp.load m rfl rfl rfl rfl ?_
  conv => whnf
  refine hp.load m rfl rfl rfl rfl ?_
  conv => whnf
  exact ⟨rfl, congrArg (Value.int .i64) (wi64 (by omega) (by omega))⟩
end
end Go.Ev
