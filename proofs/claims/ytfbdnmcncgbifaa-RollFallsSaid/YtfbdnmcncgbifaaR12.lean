/- Rolls without a program: a record with one byte turned; what opening does to the rest of a slab. No condition. -/
import Derived.Test.YtfbdnmcncgbifaaR10
noncomputable section
namespace Go.Ev
open Go.Proofs
set_option linter.unusedVariables false
set_option maxRecDepth 100000

theorem rot_back (h : BitVec 64) : (((h <<< 9) ||| (h >>> 55)) >>> 9) ||| (((h <<< 9) ||| (h >>> 55)) <<< 55) = h := by
  ext i hi
  simp only [BitVec.getElem_or, BitVec.getElem_ushiftRight, BitVec.getElem_shiftLeft, BitVec.getLsbD_or, BitVec.getLsbD_shiftLeft, BitVec.getLsbD_ushiftRight]
  by_cases h1 : i < 55
  · have e1 : (9 + i < 64) := by omega
    have e2 : ¬ (9 + i < 9) := by omega
    have e3 : 9 + i - 9 = i := by omega
    have e4 : h.getLsbD (55 + (9 + i)) = false := BitVec.getLsbD_of_ge _ _ (by omega)
    simp [h1, e1, e2, e3, e4, BitVec.getLsbD_eq_getElem hi]
  · have e1 : ¬ (9 + i < 64) := by omega
    have e2 : (i - 55 < 9) := by omega
    have e4 : 55 + (i - 55) = i := by omega
    have e5 : h.getLsbD (55 + (9 + i)) = false := BitVec.getLsbD_of_ge _ _ (by omega)
    simp [h1, e1, e2, e4, e5, BitVec.getLsbD_eq_getElem hi]
theorem rot_inj {a b : BitVec 64} (h : (a <<< 9) ||| (a >>> 55) = (b <<< 9) ||| (b >>> 55)) : a = b := by
  rw [← rot_back a, h, rot_back b]
theorem mul_k_inj {a b : BitVec 64} (h : a * 11400714819323198485#64 = b * 11400714819323198485#64) : a = b := by
  have h2 := congrArg (fun x => x * 17428512612931826493#64) h
  simp only [BitVec.mul_assoc] at h2
  rw [show 11400714819323198485#64 * 17428512612931826493#64 = 1#64 by decide] at h2
  simpa using h2
theorem xor_r_inj {a b c : BitVec 64} (h : a ^^^ c = b ^^^ c) : a = b := by
  have h2 := congrArg (fun x => x ^^^ c) h
  simpa [BitVec.xor_assoc] using h2
theorem step_inj {h g : BitVec 64} {c : UInt8} (e : Mk.step h c = Mk.step g c) : h = g := rot_inj (xor_r_inj (mul_k_inj e))
theorem step_ne {h : BitVec 64} {c d : UInt8} (e : Mk.step h c = Mk.step h d) : c = d := by
  have h1 := mul_k_inj e
  have h2 : BitVec.ofNat 64 c.toNat = BitVec.ofNat 64 d.toNat := by
    have := congrArg (fun x => ((h <<< 9) ||| (h >>> 55)) ^^^ x) h1
    simpa [← BitVec.xor_assoc] using this
  have h3 := congrArg BitVec.toNat h2
  have hc := c.toNat_lt
  have hd := d.toNat_lt
  simp only [BitVec.toNat_ofNat] at h3
  apply UInt8.toNat_inj.1
  omega
theorem steps_inj (l : List UInt8) : ∀ {h g : BitVec 64}, l.foldl Mk.step h = l.foldl Mk.step g → h = g := by
  induction l with
  | nil => intro h g e; exact e
  | cons c l ih => intro h g e; exact step_inj (ih e)
theorem sum_inj {h g : BitVec 64} {l : List UInt8} (e : Mk.sum h l = Mk.sum g l) : h = g := steps_inj l (step_inj e)
theorem sum_turn {h : BitVec 64} {a b : List UInt8} {c d : UInt8} (e : Mk.sum h (a ++ c :: b) = Mk.sum h (a ++ d :: b)) : c = d := by
  unfold Mk.sum at e
  have e2 := step_inj e
  rw [List.foldl_append, List.foldl_append] at e2
  exact step_ne (steps_inj b e2)

/-- A record's bytes, by what is marked of it. -/
def layG (B : List UInt8) (at_ : Int) : List UInt8 := [UInt8.ofNat ((128 + B.length / 128) % 256), UInt8.ofNat ((128 + B.length % 128) % 256)] ++ bytes8 (Mk.sum (BitVec.ofInt 64 at_) B) ++ B
theorem layF_G (r : Rr) (at_ : Int) : layF r at_ = layG (layB r) at_ := rfl
theorem layG_len (B : List UInt8) (at_ : Int) : (layG B at_).length = 10 + B.length := by unfold layG; simp [bytes8_len]; omega
theorem layG_drop (B : List UInt8) (at_ : Int) : (layG B at_).drop 10 = B := by
  unfold layG
  rw [List.drop_left' (by simp [bytes8_len])]
theorem layG_sum (B : List UInt8) (at_ : Int) : ((layG B at_).drop 2).take 8 = bytes8 (Mk.sum (BitVec.ofInt 64 at_) B) := by
  unfold layG
  rw [List.append_assoc, List.drop_left' (by simp), List.take_left' (bytes8_len _)]
/-- No other bytes of the same length are laid down, but for one byte. -/
theorem lay_turn {B C : List UInt8} {at_ : Int} {j : Nat} {c : UInt8} (h2 : 2 ≤ j) (hj : j < (layG B at_).length) (e : layG C at_ = (layG B at_).set j c) : (layG B at_).set j c = layG B at_ := by
  by_cases h10 : j < 10
  · have h3 : C = B := by
      have := congrArg (fun l => l.drop 10) e
      simp only [layG_drop] at this
      rw [List.drop_set, if_pos h10, layG_drop] at this
      exact this
    rw [← e, h3]
  · have h3 : C = B.set (j - 10) c := by
      have := congrArg (fun l => l.drop 10) e
      simp only [layG_drop] at this
      rw [List.drop_set, if_neg h10, layG_drop] at this
      exact this
    have h4 : bytes8 (Mk.sum (BitVec.ofInt 64 at_) C) = bytes8 (Mk.sum (BitVec.ofInt 64 at_) B) := by
      rw [← layG_sum, ← layG_sum, e, List.drop_set, if_neg (by omega), List.take_set, List.set_eq_of_length_le (by simp; omega)]
    have h5 := bytes8_inj h4
    have hjB : j - 10 < B.length := by rw [layG_len] at hj; omega
    rw [h3] at h5
    have e1 : B.set (j - 10) c = B.take (j - 10) ++ c :: B.drop (j - 10 + 1) := by rw [List.set_eq_take_append_cons_drop, if_pos hjB]
    have e2 : B = B.take (j - 10) ++ B[j - 10] :: B.drop (j - 10 + 1) := by rw [← List.drop_eq_getElem_cons hjB, List.take_append_drop]
    have h6 : Mk.sum (BitVec.ofInt 64 at_) (B.take (j - 10) ++ c :: B.drop (j - 10 + 1)) = Mk.sum (BitVec.ofInt 64 at_) (B.take (j - 10) ++ B[j - 10] :: B.drop (j - 10 + 1)) := by
      rw [← e1, ← e2]; exact h5
    have h7 := sum_turn h6
    rw [← e, h3, h7, List.set_getElem_self]
/-- A record with one byte turned, behind its length, is not whole. -/
theorem whole_turn {r : Rr} (ok : r.ok) {at_ : Int} {j : Nat} {c : UInt8} (h2 : 2 ≤ j) (hj : j < (layF r at_).length) (hc : (layF r at_).set j c ≠ layF r at_) (rest : List UInt8) : wholeF ((layF r at_).set j c ++ rest) at_ = none := by
  have hb := ok.body
  have hel := Pk.encI_len (n := ((bs r.body).length : Int)) (by unfold Pk.inR; omega)
  have hlB := layB_len r
  cases hw : wholeF ((layF r at_).set j c ++ rest) at_ with
  | none => rfl
  | some p =>
    obtain ⟨x, n⟩ := p
    exfalso
    obtain ⟨N, hN⟩ : ∃ N, N = (layB r).length := ⟨_, rfl⟩
    have hF : layF r at_ = UInt8.ofNat (128 + N / 128) :: UInt8.ofNat (128 + N % 128) :: (bytes8 (Mk.sum (BitVec.ofInt 64 at_) (layB r)) ++ layB r) := by
      unfold layF
      rw [← hN, Nat.mod_eq_of_lt (show 128 + N / 128 < 256 by omega), Nat.mod_eq_of_lt (show 128 + N % 128 < 256 by omega)]
      rfl
    have hset : (layF r at_).set j c = UInt8.ofNat (128 + N / 128) :: UInt8.ofNat (128 + N % 128) :: (bytes8 (Mk.sum (BitVec.ofInt 64 at_) (layB r)) ++ layB r).set (j - 2) c := by
      obtain ⟨i, rfl⟩ : ∃ i, j = i + 2 := ⟨j - 2, by omega⟩
      rw [hF]; rfl
    have g0 : ((layF r at_).set j c ++ rest).getD 0 0 = UInt8.ofNat (128 + N / 128) := by rw [hset, List.cons_append, List.getD_cons_zero]
    have g1 : ((layF r at_).set j c ++ rest).getD 1 0 = UInt8.ofNat (128 + N % 128) := by rw [hset, List.cons_append, List.cons_append, List.getD_cons_succ, List.getD_cons_zero]
    have t0 : (UInt8.ofNat (128 + N / 128)).toNat = 128 + N / 128 := toNat_ofNat (by omega)
    have t1 : (UInt8.ofNat (128 + N % 128)).toNat = 128 + N % 128 := toNat_ofNat (by omega)
    have hnn : (128 + N / 128 - 128) * 128 + (128 + N % 128 - 128) = N := by omega
    have hlen : ((layF r at_).set j c).length = 10 + N := by rw [List.length_set, layF_G, layG_len, hN]
    unfold wholeF at hw
    simp only [g0, g1, t0, t1, hnn] at hw
    split at hw
    · cases hw
    · split at hw
      · cases hw
      · split at hw
        · cases hw
        · split at hw
          · rename_i hq
            have e := hq.2
            rw [← hlen, List.take_left' rfl] at e
            exact hc (lay_turn h2 hj e)
          · cases hw
/-- The records ahead of one that was turned are told, and no other. -/
theorem parse_turn {L1 L2 : List Rr} {r : Rr} (ok : ∀ x ∈ L1 ++ r :: L2, x.ok) (hr : rises 0 (L1 ++ r :: L2)) {b : List UInt8} {j : Nat} {c : UInt8} {rest : List UInt8} (hb : b = layAll 0 L1 ++ ((layF r (layAll 0 L1).length).set j c ++ rest)) (h2 : 2 ≤ j) (hj : j < (layF r (layAll 0 L1).length).length)
    (hc : (layF r (layAll 0 L1).length).set j c ≠ layF r (layAll 0 L1).length) : parseF b = (L1, (layAll 0 L1).length) := by
  have hmin := layAll_min L1 0
  have hbl : (layAll 0 L1).length + (layF r (layAll 0 L1).length).length ≤ b.length := by rw [hb]; simp
  have hrl : ∀ (l : List Rr) (a : Int) (m : List Rr), rises a (l ++ m) → rises a l := by
    intro l
    induction l with
    | nil => intros; trivial
    | cons x l ih => intro a m h; exact ⟨h.1, ih _ _ h.2⟩
  unfold parseF
  rw [parse_lay L1 (b.length + 1) 0 b [] _ (fun x hx => ok x (List.mem_append_left _ hx)) (hrl _ _ _ hr) (by simpa using hb) (by omega)]
  rw [Nat.zero_add, List.nil_append]
  obtain ⟨f, hf⟩ : ∃ f, b.length + 1 - L1.length = f + 1 := ⟨b.length - L1.length, by omega⟩
  rw [hf]
  show (match wholeF (b.drop (layAll 0 L1).length) (layAll 0 L1).length with
    | none => (L1, (layAll 0 L1).length)
    | some (x, n) => if x.seq ≤ lastF L1 then (L1, (layAll 0 L1).length) else parseL f b ((layAll 0 L1).length + n) (L1 ++ [x])) = _
  rw [hb, List.drop_left' rfl, whole_turn (ok r (by simp)) h2 hj hc]
theorem parse_ahead {L1 L2 : List Rr} (ok : ∀ x ∈ L1 ++ L2, x.ok) (hr : rises 0 (L1 ++ L2)) {b rest : List UInt8} (hb : b = layAll 0 L1 ++ rest) : L1.length ≤ (parseF b).1.length := by
  have hmin := layAll_min L1 0
  have hbl : (layAll 0 L1).length ≤ b.length := by rw [hb]; simp
  have hrl : ∀ (l : List Rr) (a : Int) (m : List Rr), rises a (l ++ m) → rises a l := by
    intro l
    induction l with
    | nil => intros; trivial
    | cons x l ih => intro a m h; exact ⟨h.1, ih _ _ h.2⟩
  unfold parseF
  rw [parse_lay L1 (b.length + 1) 0 b [] _ (fun x hx => ok x (List.mem_append_left _ hx)) (hrl _ _ _ hr) (by simpa using hb) (by omega)]
  rw [Nat.zero_add, List.nil_append]
  exact (parseL_le _ _ _ _ hbl).2.1
/-- One slab and another, alike but within a run. -/
structure Apart (σ σ' : SL) (A Z : Nat) : Prop where
  dead : σ'.dead = false
  limits : σ'.limits = false
  len : σ'.b.length = σ.b.length
  out : ∀ k, k < A ∨ A + Z ≤ k → σ'.b[k]? = σ.b[k]?
theorem Apart.refl {σ : SL} (h1 : σ.dead = false) (h2 : σ.limits = false) (A Z : Nat) : Apart σ σ A Z := ⟨h1, h2, rfl, fun _ _ => rfl⟩
theorem Apart.trans {σ τ ρ : SL} {A Z : Nat} (h : Apart σ τ A Z) (g : Apart τ ρ A Z) : Apart σ ρ A Z := ⟨g.dead, g.limits, by rw [g.len, h.len], fun k hk => by rw [g.out k hk, h.out k hk]⟩
theorem Apart.write {σ : SL} {A Z : Nat} {a : Nat} {l : List UInt8} (h1 : σ.dead = false) (h2 : σ.limits = false) (h3 : a + l.length ≤ σ.b.length) (h4 : A ≤ a) (h5 : a + l.length ≤ A + Z) : (σ.write a l).2 = true ∧ Apart σ (σ.write a l).1 A Z := by
  have hw := SL.write_plainR (σ := σ) (a := (a : Int)) (l := l) h1 h2 (by omega) (by omega)
  rw [hw]
  refine ⟨rfl, h1, h2, by simp only; rw [putB_length _ _ _ (by omega)], fun k hk => ?_⟩
  simp only [Int.toNat_natCast]
  rw [putB_getR h3]
  split
  · rfl
  · rw [if_neg (by omega)]
theorem zero_apart (base len A Z : Nat) (h4 : A ≤ base) (h5 : base + len ≤ A + Z) : ∀ (f at_ : Nat) (σ : SL), σ.dead = false → σ.limits = false → base + len ≤ σ.b.length → (zeroL f σ base at_ len).2 = true ∧ Apart σ (zeroL f σ base at_ len).1 A Z
  | 0, at_, σ, h1, h2, h3 => ⟨rfl, .refl h1 h2 _ _⟩
  | f + 1, at_, σ, h1, h2, h3 => by
    unfold zeroL
    split
    · rename_i hlt
      have hw := Apart.write (σ := σ) (A := A) (Z := Z) (a := base + at_) (l := List.replicate (min 32 (len - at_)) 0) h1 h2 (by simp; omega) (by omega) (by simp; omega)
      have ec : ((base + at_ : Nat) : Int) = (base : Int) + (at_ : Int) := by push_cast; rfl
      rw [ec] at hw
      rw [if_pos hw.1]
      have ih := zero_apart base len A Z h4 h5 f (at_ + 32) _ hw.2.dead hw.2.limits (by rw [hw.2.len]; omega)
      exact ⟨ih.1, hw.2.trans ih.2⟩
    · exact ⟨rfl, .refl h1 h2 _ _⟩
/-- A region is opened, whatever it holds; no other byte is touched. -/
theorem open_apart {σ : SL} {A Z : Nat} (hd : σ.dead = false) (hl : σ.limits = false) (h1 : 32 ≤ Z) (h2 : Z ≤ 8192) (h3 : A + Z ≤ σ.b.length) :
    (openF σ A Z).1 = .ok ⟨A, Z, (parseF ((σ.b.drop A).take Z)).2, (parseF ((σ.b.drop A).take Z)).1⟩ ∧ Apart σ (openF σ A Z).2 A Z := by
  unfold openF
  rw [if_neg (by omega), SL.read_plainR hd (by omega) (by omega) (by omega)]
  simp only [Int.toNat_natCast]
  generalize hb : (σ.b.drop A).take Z = b
  have hbl : b.length = Z := by rw [← hb]; simp; omega
  have hle : (parseF b).2 ≤ b.length := (parseL_le _ _ _ _ (Nat.zero_le _)).1
  have hz : (zeroF σ ((A : Int) + ((parseF b).2 : Int)) (b.drop (parseF b).2)).2 = true ∧ Apart σ (zeroF σ ((A : Int) + ((parseF b).2 : Int)) (b.drop (parseF b).2)).1 A Z := by
    unfold zeroF
    split
    · have ec : ((A : Int) + ((parseF b).2 : Int)) = ((A + (parseF b).2 : Nat) : Int) := by push_cast; rfl
      rw [ec]
      exact zero_apart _ _ A Z (by omega) (by simp; omega) _ _ _ hd hl (by simp; omega)
    · exact ⟨rfl, .refl hd hl _ _⟩
  generalize zeroF σ ((A : Int) + ((parseF b).2 : Int)) (b.drop (parseF b).2) = q at hz
  obtain ⟨σ', o⟩ := q
  obtain ⟨rfl, ha⟩ := hz
  exact ⟨rfl, ha⟩
/-- A roll is as it was where no byte of its region was touched. -/
theorem RollOk.apart {σ σ' : SL} {ro : RO} (h : RollOk σ ro) {A Z : Nat} (ha : Apart σ σ' A Z) (ho : A + Z ≤ ro.at_ ∨ ro.at_ + ro.size ≤ A) : RollOk σ' ro := by
  refine ⟨ha.dead, by rw [ha.len]; exact h.fits, h.used, h.room, ?_⟩
  have : (σ'.b.drop ro.at_).take ro.size = (σ.b.drop ro.at_).take ro.size := by
    apply List.ext_getElem?
    intro k
    rw [reg_get, reg_get]
    split
    · exact ha.out _ (by omega)
    · rfl
  rw [this]
  exact h.laid
/-- Where each record ends. -/
def endsF : Nat → List Rr → List Nat
  | _, [] => []
  | u, r :: l => (u + (layF r u).length) :: endsF (u + (layF r u).length) l
theorem endsF_len : ∀ (u : Nat) (l : List Rr), (endsF u l).length = l.length
  | _, [] => rfl
  | u, r :: l => by simp [endsF, endsF_len _ l]
theorem endsF_snoc : ∀ (u : Nat) (l : List Rr) (r : Rr), endsF u (l ++ [r]) = endsF u l ++ [u + (layAll u l).length + (layF r ((u + (layAll u l).length : Nat) : Int)).length]
  | u, [], r => by simp [endsF, layAll]
  | u, x :: l, r => by
    simp only [List.cons_append, endsF, layAll, List.length_append]
    rw [endsF_snoc]
    simp only [Nat.add_assoc]
theorem ends_last : ∀ (u : Nat) (l : List Rr), l ≠ [] → (endsF u l)[l.length - 1]? = some (u + (layAll u l).length)
  | u, [], h => absurd rfl h
  | u, [r], _ => by simp [endsF, layAll]
  | u, r :: x :: l, _ => by
    have := ends_last (u + (layF r u).length) (x :: l) (by simp)
    simp only [endsF, layAll, List.length_cons, List.length_append] at this ⊢
    rw [show l.length + 1 + 1 - 1 = (l.length + 1 - 1) + 1 by omega, List.getElem?_cons_succ, this]
    simp only [Nat.add_assoc]
theorem ends_at : ∀ (u : Nat) (l m : List Rr), l ≠ [] → (endsF u (l ++ m))[l.length - 1]? = some (u + (layAll u l).length)
  | u, [], m, h => absurd rfl h
  | u, [r], m, _ => by simp [endsF, layAll]
  | u, r :: x :: l, m, _ => by
    have := ends_at (u + (layF r u).length) (x :: l) m (by simp)
    simp only [endsF, layAll, List.length_cons, List.length_append, List.cons_append] at this ⊢
    rw [show l.length + 1 + 1 - 1 = (l.length + 1 - 1) + 1 by omega, List.getElem?_cons_succ, this]
    simp only [Nat.add_assoc]
/-- The record that a place lies in. -/
theorem ends_in : ∀ (L : List Rr) (u k : Nat), u ≤ k → k < u + (layAll u L).length → ∃ L1 r L2, L = L1 ++ r :: L2 ∧ u + (layAll u L1).length ≤ k ∧ k < u + (layAll u L1).length + (layF r ((u + (layAll u L1).length : Nat) : Int)).length ∧ (endsF u L).countP (fun e => decide (e ≤ k)) = L1.length
  | [], u, k, h1, h2 => by simp [layAll] at h2; omega
  | r :: L, u, k, h1, h2 => by
    have hup : ∀ (L : List Rr) (u : Nat), ∀ e ∈ endsF u L, u < e := by
      intro L
      induction L with
      | nil => intro u e he; cases he
      | cons x L ih =>
        intro u e he
        have := layF_min x u
        rcases List.mem_cons.1 he with rfl | he
        · omega
        · have := ih _ e he; omega
    by_cases hk : k < u + (layF r u).length
    · refine ⟨[], r, L, rfl, by simpa [layAll] using h1, by simpa [layAll] using hk, ?_⟩
      simp only [endsF, List.length_nil]
      rw [List.countP_eq_zero]
      intro e he
      rcases List.mem_cons.1 he with rfl | he
      · simp; omega
      · have := hup _ _ e he; simp; omega
    · obtain ⟨L1, x, L2, rfl, g1, g2, g3⟩ := ends_in L (u + (layF r u).length) k (by omega) (by simp only [layAll, List.length_append] at h2; omega)
      refine ⟨r :: L1, x, L2, rfl, by simp only [layAll, List.length_append]; omega, ?_, ?_⟩
      · simp only [layAll, List.length_append]
        rw [← Nat.add_assoc]; exact g2
      · simp only [endsF, List.countP_cons, g3, List.length_cons]
        rw [if_pos (by simp; omega)]
theorem put_in (A B C : List UInt8) {j : Nat} (hj : j < B.length) (c : UInt8) : putB (A ++ (B ++ C)) (A.length + j) [c] = A ++ (B.set j c ++ C) := by
  apply List.ext_getElem?
  intro k
  rw [putB_getR (by simp; omega)]
  simp only [List.length_singleton]
  by_cases h1 : k < A.length
  · rw [if_pos (by omega), List.getElem?_append_left h1, List.getElem?_append_left h1]
  · by_cases h2 : k - A.length < B.length
    · have e1 : (A ++ (B ++ C))[k]? = B[k - A.length]? := by rw [List.getElem?_append_right (by omega), List.getElem?_append_left h2]
      have e2 : (A ++ (B.set j c ++ C))[k]? = (B.set j c)[k - A.length]? := by rw [List.getElem?_append_right (by omega), List.getElem?_append_left (by simpa using h2)]
      rw [e1, e2, List.getElem?_set]
      by_cases h3 : k = A.length + j
      · subst h3
        rw [if_neg (by omega), if_pos (by omega), if_pos (by omega), if_pos (by omega)]
        simp
      · rw [if_neg (c := j = k - A.length) (by omega)]
        split
        · rfl
        · rw [if_neg (by omega)]
    · have e1 : (A ++ (B ++ C))[k]? = C[k - A.length - B.length]? := by rw [List.getElem?_append_right (by omega), List.getElem?_append_right (by omega)]
      have e2 : (A ++ (B.set j c ++ C))[k]? = C[k - A.length - B.length]? := by rw [List.getElem?_append_right (by omega), List.getElem?_append_right (by simp; omega), List.length_set]
      rw [e1, e2, if_neg (by omega), if_neg (by omega)]
/-- A byte of a region of records is another one. -/
theorem turned {τ : SL} {L1 L2 : List Rr} {r : Rr} {Z u : Nat} (ok : RollOk τ ⟨0, Z, u, L1 ++ r :: L2⟩) (hlim : τ.limits = false) {k : Nat} {c : UInt8} (h1 : (layAll 0 L1).length ≤ k) (h2 : k < (layAll 0 L1).length + (layF r ((layAll 0 L1).length : Nat)).length) (hc : τ.b[k]? ≠ some c) :
    (τ.write k [c]).2 = true ∧ Apart τ (τ.write k [c]).1 0 Z ∧ L1.length ≤ (parseF (((τ.write k [c]).1.b.drop 0).take Z)).1.length ∧ ((layAll 0 L1).length + 2 ≤ k → (parseF (((τ.write k [c]).1.b.drop 0).take Z)).1.length = L1.length) := by
  have hfit : 0 + Z ≤ τ.b.length := ok.fits
  have hroom : u ≤ Z := ok.room
  have hus : u = (layAll 0 (L1 ++ r :: L2)).length := ok.used
  rw [layAll_append, List.length_append] at hus
  simp only [layAll, List.length_append, Nat.zero_add] at hus
  obtain ⟨hw1, hw2⟩ := Apart.write (σ := τ) (A := 0) (Z := Z) (a := k) (l := [c]) ok.dead hlim (by simp; omega) (by omega) (by simp; omega)
  have hb : (τ.write k [c]).1.b = putB τ.b (0 + k) [c] := by
    rw [SL.write_plainR ok.dead hlim (by omega) (by simp; omega)]
    simp
  obtain ⟨n, hn⟩ := ok.laid.zeros
  have hn : (τ.b.drop 0).take Z = layAll 0 (L1 ++ r :: L2) ++ List.replicate n 0 := hn
  obtain ⟨rest, hrest⟩ : ∃ rest, (τ.b.drop 0).take Z = layAll 0 L1 ++ (layF r ((layAll 0 L1).length : Nat) ++ rest) := ⟨layAll ((layAll 0 L1).length + (layF r ((layAll 0 L1).length : Nat)).length) L2 ++ List.replicate n 0, by
    rw [hn, layAll_append, List.append_assoc]
    simp only [layAll, Nat.zero_add, List.append_assoc]⟩
  have hreg : ((τ.write k [c]).1.b.drop 0).take Z = layAll 0 L1 ++ ((layF r ((layAll 0 L1).length : Nat)).set (k - (layAll 0 L1).length) c ++ rest) := by
    rw [hb, reg_put (by omega) (by simp; omega), hrest]
    have := put_in (layAll 0 L1) (layF r ((layAll 0 L1).length : Nat)) rest (j := k - (layAll 0 L1).length) (by omega) c
    rw [show (layAll 0 L1).length + (k - (layAll 0 L1).length) = k by omega] at this
    exact this
  refine ⟨hw1, hw2, parse_ahead (L1 := L1) (L2 := r :: L2) ok.laid.ok ok.laid.rises hreg, fun h => ?_⟩
  rw [parse_turn (L1 := L1) (L2 := L2) (r := r) ok.laid.ok ok.laid.rises hreg (by omega) (by omega) ?_]
  intro e
  apply hc
  have hk : k < Z := by omega
  have g1 : τ.b[k]? = ((τ.b.drop 0).take Z)[k]? := by rw [reg_get, if_pos hk, Nat.zero_add]
  rw [g1, hrest, List.getElem?_append_right h1, List.getElem?_append_left (by omega), ← e, List.getElem?_set_self (by omega)]
end Go.Ev
