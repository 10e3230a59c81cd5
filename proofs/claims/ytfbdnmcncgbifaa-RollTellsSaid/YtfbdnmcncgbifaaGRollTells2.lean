/- Several texts in one: what the law's text leans on, one behind the other. No condition but those that each theorem names. -/
import Derived.Test.YtfbdnmcncgbifaaGRollTells1
import Derived.Test.YtfbdnmcncgbifaaT1
import Derived.Test.YtfbdnmcncgbifaaF3
/- Rolls without a program: a record with one byte turned; what opening does to the rest of a slab. No condition. -/
noncomputable section
namespace Go.Ev
open Go.Proofs
set_option linter.unusedVariables false
set_option maxRecDepth 100000

theorem rot_back (h : BitVec 64) : (((h <<< 9) ||| (h >>> 55)) >>> 9) ||| (((h <<< 9) ||| (h >>> 55)) <<< 55) = h := by
  ext i hi
  simp only [BitVec.getElem_or, BitVec.getElem_ushiftRight, BitVec.getElem_shiftLeft, BitVec.getLsbD_or, BitVec.getLsbD_shiftLeft, BitVec.getLsbD_ushiftRight]
  by_cases h1 : i < 55
  · have e1 : (9 + i < 64) := by omega
    have e2 : ¬ (9 + i < 9) := by omega
    have e3 : 9 + i - 9 = i := by omega
    have e4 : h.getLsbD (55 + (9 + i)) = false := BitVec.getLsbD_of_ge _ _ (by omega)
    simp [h1, e1, e2, e3, e4, BitVec.getLsbD_eq_getElem hi]
  · have e1 : ¬ (9 + i < 64) := by omega
    have e2 : (i - 55 < 9) := by omega
    have e4 : 55 + (i - 55) = i := by omega
    have e5 : h.getLsbD (55 + (9 + i)) = false := BitVec.getLsbD_of_ge _ _ (by omega)
    simp [h1, e1, e2, e4, e5, BitVec.getLsbD_eq_getElem hi]
theorem rot_inj {a b : BitVec 64} (h : (a <<< 9) ||| (a >>> 55) = (b <<< 9) ||| (b >>> 55)) : a = b := by
  rw [← rot_back a, h, rot_back b]
theorem mul_k_inj {a b : BitVec 64} (h : a * 11400714819323198485#64 = b * 11400714819323198485#64) : a = b := by
  have h2 := congrArg (fun x => x * 17428512612931826493#64) h
  simp only [BitVec.mul_assoc] at h2
  rw [show 11400714819323198485#64 * 17428512612931826493#64 = 1#64 by decide] at h2
  simpa using h2
theorem xor_r_inj {a b c : BitVec 64} (h : a ^^^ c = b ^^^ c) : a = b := by
  have h2 := congrArg (fun x => x ^^^ c) h
  simpa [BitVec.xor_assoc] using h2
theorem step_inj {h g : BitVec 64} {c : UInt8} (e : Mk.step h c = Mk.step g c) : h = g := rot_inj (xor_r_inj (mul_k_inj e))
theorem step_ne {h : BitVec 64} {c d : UInt8} (e : Mk.step h c = Mk.step h d) : c = d := by
  have h1 := mul_k_inj e
  have h2 : BitVec.ofNat 64 c.toNat = BitVec.ofNat 64 d.toNat := by
    have := congrArg (fun x => ((h <<< 9) ||| (h >>> 55)) ^^^ x) h1
    simpa [← BitVec.xor_assoc] using this
  have h3 := congrArg BitVec.toNat h2
  have hc := c.toNat_lt
  have hd := d.toNat_lt
  simp only [BitVec.toNat_ofNat] at h3
  apply UInt8.toNat_inj.1
  omega
theorem steps_inj (l : List UInt8) : ∀ {h g : BitVec 64}, l.foldl Mk.step h = l.foldl Mk.step g → h = g := by
  induction l with
  | nil => intro h g e; exact e
  | cons c l ih => intro h g e; exact step_inj (ih e)
theorem sum_turn {h : BitVec 64} {a b : List UInt8} {c d : UInt8} (e : Mk.sum h (a ++ c :: b) = Mk.sum h (a ++ d :: b)) : c = d := by
  unfold Mk.sum at e
  have e2 := step_inj e
  rw [List.foldl_append, List.foldl_append] at e2
  exact step_ne (steps_inj b e2)

/-- A record's bytes, by what is marked of it. -/
def layG (B : List UInt8) (at_ : Int) : List UInt8 := [UInt8.ofNat ((128 + B.length / 128) % 256), UInt8.ofNat ((128 + B.length % 128) % 256)] ++ bytes8 (Mk.sum (BitVec.ofInt 64 at_) B) ++ B
theorem layF_G (r : Rr) (at_ : Int) : layF r at_ = layG (layB r) at_ := rfl
theorem layG_len (B : List UInt8) (at_ : Int) : (layG B at_).length = 10 + B.length := by unfold layG; simp [bytes8_len]; omega
theorem layG_drop (B : List UInt8) (at_ : Int) : (layG B at_).drop 10 = B := by
  unfold layG
  rw [List.drop_left' (by simp [bytes8_len])]
theorem layG_sum (B : List UInt8) (at_ : Int) : ((layG B at_).drop 2).take 8 = bytes8 (Mk.sum (BitVec.ofInt 64 at_) B) := by
  unfold layG
  rw [List.append_assoc, List.drop_left' (by simp), List.take_left' (bytes8_len _)]
/-- No other bytes of the same length are laid down, but for one byte. -/
theorem lay_turn {B C : List UInt8} {at_ : Int} {j : Nat} {c : UInt8} (h2 : 2 ≤ j) (hj : j < (layG B at_).length) (e : layG C at_ = (layG B at_).set j c) : (layG B at_).set j c = layG B at_ := by
  by_cases h10 : j < 10
  · have h3 : C = B := by
      have := congrArg (fun l => l.drop 10) e
      simp only [layG_drop] at this
      rw [List.drop_set, if_pos h10, layG_drop] at this
      exact this
    rw [← e, h3]
  · have h3 : C = B.set (j - 10) c := by
      have := congrArg (fun l => l.drop 10) e
      simp only [layG_drop] at this
      rw [List.drop_set, if_neg h10, layG_drop] at this
      exact this
    have h4 : bytes8 (Mk.sum (BitVec.ofInt 64 at_) C) = bytes8 (Mk.sum (BitVec.ofInt 64 at_) B) := by
      rw [← layG_sum, ← layG_sum, e, List.drop_set, if_neg (by omega), List.take_set, List.set_eq_of_length_le (by simp; omega)]
    have h5 := bytes8_inj h4
    have hjB : j - 10 < B.length := by rw [layG_len] at hj; omega
    rw [h3] at h5
    have e1 : B.set (j - 10) c = B.take (j - 10) ++ c :: B.drop (j - 10 + 1) := by rw [List.set_eq_take_append_cons_drop, if_pos hjB]
    have e2 : B = B.take (j - 10) ++ B[j - 10] :: B.drop (j - 10 + 1) := by rw [← List.drop_eq_getElem_cons hjB, List.take_append_drop]
    have h6 : Mk.sum (BitVec.ofInt 64 at_) (B.take (j - 10) ++ c :: B.drop (j - 10 + 1)) = Mk.sum (BitVec.ofInt 64 at_) (B.take (j - 10) ++ B[j - 10] :: B.drop (j - 10 + 1)) := by
      rw [← e1, ← e2]; exact h5
    have h7 := sum_turn h6
    rw [← e, h3, h7, List.set_getElem_self]
/-- A record with one byte turned, behind its length, is not whole. -/
theorem whole_turn {r : Rr} (ok : r.ok) {at_ : Int} {j : Nat} {c : UInt8} (h2 : 2 ≤ j) (hj : j < (layF r at_).length) (hc : (layF r at_).set j c ≠ layF r at_) (rest : List UInt8) : wholeF ((layF r at_).set j c ++ rest) at_ = none := by
  have hb := ok.body
  have hel := Pk.encI_len (n := ((bs r.body).length : Int)) (by unfold Pk.inR; omega)
  have hlB := layB_len r
  cases hw : wholeF ((layF r at_).set j c ++ rest) at_ with
  | none => rfl
  | some p =>
    obtain ⟨x, n⟩ := p
    exfalso
    obtain ⟨N, hN⟩ : ∃ N, N = (layB r).length := ⟨_, rfl⟩
    have hF : layF r at_ = UInt8.ofNat (128 + N / 128) :: UInt8.ofNat (128 + N % 128) :: (bytes8 (Mk.sum (BitVec.ofInt 64 at_) (layB r)) ++ layB r) := by
      unfold layF
      rw [← hN, Nat.mod_eq_of_lt (show 128 + N / 128 < 256 by omega), Nat.mod_eq_of_lt (show 128 + N % 128 < 256 by omega)]
      rfl
    have hset : (layF r at_).set j c = UInt8.ofNat (128 + N / 128) :: UInt8.ofNat (128 + N % 128) :: (bytes8 (Mk.sum (BitVec.ofInt 64 at_) (layB r)) ++ layB r).set (j - 2) c := by
      obtain ⟨i, rfl⟩ : ∃ i, j = i + 2 := ⟨j - 2, by omega⟩
      rw [hF]; rfl
    have g0 : ((layF r at_).set j c ++ rest).getD 0 0 = UInt8.ofNat (128 + N / 128) := by rw [hset, List.cons_append, List.getD_cons_zero]
    have g1 : ((layF r at_).set j c ++ rest).getD 1 0 = UInt8.ofNat (128 + N % 128) := by rw [hset, List.cons_append, List.cons_append, List.getD_cons_succ, List.getD_cons_zero]
    have t0 : (UInt8.ofNat (128 + N / 128)).toNat = 128 + N / 128 := toNat_ofNat (by omega)
    have t1 : (UInt8.ofNat (128 + N % 128)).toNat = 128 + N % 128 := toNat_ofNat (by omega)
    have hnn : (128 + N / 128 - 128) * 128 + (128 + N % 128 - 128) = N := by omega
    have hlen : ((layF r at_).set j c).length = 10 + N := by rw [List.length_set, layF_G, layG_len, hN]
    unfold wholeF at hw
    simp only [g0, g1, t0, t1, hnn] at hw
    split at hw
    · cases hw
    · split at hw
      · cases hw
      · split at hw
        · cases hw
        · split at hw
          · rename_i hq
            have e := hq.2
            rw [← hlen, List.take_left' rfl] at e
            exact hc (lay_turn h2 hj e)
          · cases hw
/-- The records ahead of one that was turned are told, and no other. -/
theorem parse_turn {L1 L2 : List Rr} {r : Rr} (ok : ∀ x ∈ L1 ++ r :: L2, x.ok) (hr : rises 0 (L1 ++ r :: L2)) {b : List UInt8} {j : Nat} {c : UInt8} {rest : List UInt8} (hb : b = layAll 0 L1 ++ ((layF r (layAll 0 L1).length).set j c ++ rest)) (h2 : 2 ≤ j) (hj : j < (layF r (layAll 0 L1).length).length)
    (hc : (layF r (layAll 0 L1).length).set j c ≠ layF r (layAll 0 L1).length) : parseF b = (L1, (layAll 0 L1).length) := by
  have hmin := layAll_min L1 0
  have hbl : (layAll 0 L1).length + (layF r (layAll 0 L1).length).length ≤ b.length := by rw [hb]; simp
  have hrl : ∀ (l : List Rr) (a : Int) (m : List Rr), rises a (l ++ m) → rises a l := by
    intro l
    induction l with
    | nil => intros; trivial
    | cons x l ih => intro a m h; exact ⟨h.1, ih _ _ h.2⟩
  unfold parseF
  rw [parse_lay L1 (b.length + 1) 0 b [] _ (fun x hx => ok x (List.mem_append_left _ hx)) (hrl _ _ _ hr) (by simpa using hb) (by omega)]
  rw [Nat.zero_add, List.nil_append]
  obtain ⟨f, hf⟩ : ∃ f, b.length + 1 - L1.length = f + 1 := ⟨b.length - L1.length, by omega⟩
  rw [hf]
  show (match wholeF (b.drop (layAll 0 L1).length) (layAll 0 L1).length with
    | none => (L1, (layAll 0 L1).length)
    | some (x, n) => if x.seq ≤ lastF L1 then (L1, (layAll 0 L1).length) else parseL f b ((layAll 0 L1).length + n) (L1 ++ [x])) = _
  rw [hb, List.drop_left' rfl, whole_turn (ok r (by simp)) h2 hj hc]
theorem parse_ahead {L1 L2 : List Rr} (ok : ∀ x ∈ L1 ++ L2, x.ok) (hr : rises 0 (L1 ++ L2)) {b rest : List UInt8} (hb : b = layAll 0 L1 ++ rest) : L1.length ≤ (parseF b).1.length := by
  have hmin := layAll_min L1 0
  have hbl : (layAll 0 L1).length ≤ b.length := by rw [hb]; simp
  have hrl : ∀ (l : List Rr) (a : Int) (m : List Rr), rises a (l ++ m) → rises a l := by
    intro l
    induction l with
    | nil => intros; trivial
    | cons x l ih => intro a m h; exact ⟨h.1, ih _ _ h.2⟩
  unfold parseF
  rw [parse_lay L1 (b.length + 1) 0 b [] _ (fun x hx => ok x (List.mem_append_left _ hx)) (hrl _ _ _ hr) (by simpa using hb) (by omega)]
  rw [Nat.zero_add, List.nil_append]
  exact (parseL_le _ _ _ _ hbl).2.1
/-- One slab and another, alike but within a run. -/
structure Apart (σ σ' : SL) (A Z : Nat) : Prop where
  dead : σ'.dead = false
  limits : σ'.limits = false
  len : σ'.b.length = σ.b.length
  out : ∀ k, k < A ∨ A + Z ≤ k → σ'.b[k]? = σ.b[k]?
theorem Apart.refl {σ : SL} (h1 : σ.dead = false) (h2 : σ.limits = false) (A Z : Nat) : Apart σ σ A Z := ⟨h1, h2, rfl, fun _ _ => rfl⟩
theorem Apart.trans {σ τ ρ : SL} {A Z : Nat} (h : Apart σ τ A Z) (g : Apart τ ρ A Z) : Apart σ ρ A Z := ⟨g.dead, g.limits, by rw [g.len, h.len], fun k hk => by rw [g.out k hk, h.out k hk]⟩
theorem Apart.write {σ : SL} {A Z : Nat} {a : Nat} {l : List UInt8} (h1 : σ.dead = false) (h2 : σ.limits = false) (h3 : a + l.length ≤ σ.b.length) (h4 : A ≤ a) (h5 : a + l.length ≤ A + Z) : (σ.write a l).2 = true ∧ Apart σ (σ.write a l).1 A Z := by
  have hw := SL.write_plainR (σ := σ) (a := (a : Int)) (l := l) h1 h2 (by omega) (by omega)
  rw [hw]
  refine ⟨rfl, h1, h2, by simp only; rw [putB_length _ _ _ (by omega)], fun k hk => ?_⟩
  simp only [Int.toNat_natCast]
  rw [putB_getR h3]
  split
  · rfl
  · rw [if_neg (by omega)]
theorem zero_apart (base len A Z : Nat) (h4 : A ≤ base) (h5 : base + len ≤ A + Z) : ∀ (f at_ : Nat) (σ : SL), σ.dead = false → σ.limits = false → base + len ≤ σ.b.length → (zeroL f σ base at_ len).2 = true ∧ Apart σ (zeroL f σ base at_ len).1 A Z
  | 0, at_, σ, h1, h2, h3 => ⟨rfl, .refl h1 h2 _ _⟩
  | f + 1, at_, σ, h1, h2, h3 => by
    unfold zeroL
    split
    · rename_i hlt
      have hw := Apart.write (σ := σ) (A := A) (Z := Z) (a := base + at_) (l := List.replicate (min 32 (len - at_)) 0) h1 h2 (by simp; omega) (by omega) (by simp; omega)
      have ec : ((base + at_ : Nat) : Int) = (base : Int) + (at_ : Int) := by push_cast; rfl
      rw [ec] at hw
      rw [if_pos hw.1]
      have ih := zero_apart base len A Z h4 h5 f (at_ + 32) _ hw.2.dead hw.2.limits (by rw [hw.2.len]; omega)
      exact ⟨ih.1, hw.2.trans ih.2⟩
    · exact ⟨rfl, .refl h1 h2 _ _⟩
/-- A region is opened, whatever it holds; no other byte is touched. -/
theorem open_apart {σ : SL} {A Z : Nat} (hd : σ.dead = false) (hl : σ.limits = false) (h1 : 32 ≤ Z) (h2 : Z ≤ 8192) (h3 : A + Z ≤ σ.b.length) :
    (openF σ A Z).1 = .ok ⟨A, Z, (parseF ((σ.b.drop A).take Z)).2, (parseF ((σ.b.drop A).take Z)).1⟩ ∧ Apart σ (openF σ A Z).2 A Z := by
  unfold openF
  rw [if_neg (by omega), SL.read_plainR hd (by omega) (by omega) (by omega)]
  simp only [Int.toNat_natCast]
  generalize hb : (σ.b.drop A).take Z = b
  have hbl : b.length = Z := by rw [← hb]; simp; omega
  have hle : (parseF b).2 ≤ b.length := (parseL_le _ _ _ _ (Nat.zero_le _)).1
  have hz : (zeroF σ ((A : Int) + ((parseF b).2 : Int)) (b.drop (parseF b).2)).2 = true ∧ Apart σ (zeroF σ ((A : Int) + ((parseF b).2 : Int)) (b.drop (parseF b).2)).1 A Z := by
    unfold zeroF
    split
    · have ec : ((A : Int) + ((parseF b).2 : Int)) = ((A + (parseF b).2 : Nat) : Int) := by push_cast; rfl
      rw [ec]
      exact zero_apart _ _ A Z (by omega) (by simp; omega) _ _ _ hd hl (by simp; omega)
    · exact ⟨rfl, .refl hd hl _ _⟩
  generalize zeroF σ ((A : Int) + ((parseF b).2 : Int)) (b.drop (parseF b).2) = q at hz
  obtain ⟨σ', o⟩ := q
  obtain ⟨rfl, ha⟩ := hz
  exact ⟨rfl, ha⟩
theorem put_in (A B C : List UInt8) {j : Nat} (hj : j < B.length) (c : UInt8) : putB (A ++ (B ++ C)) (A.length + j) [c] = A ++ (B.set j c ++ C) := by
  apply List.ext_getElem?
  intro k
  rw [putB_getR (by simp; omega)]
  simp only [List.length_singleton]
  by_cases h1 : k < A.length
  · rw [if_pos (by omega), List.getElem?_append_left h1, List.getElem?_append_left h1]
  · by_cases h2 : k - A.length < B.length
    · have e1 : (A ++ (B ++ C))[k]? = B[k - A.length]? := by rw [List.getElem?_append_right (by omega), List.getElem?_append_left h2]
      have e2 : (A ++ (B.set j c ++ C))[k]? = (B.set j c)[k - A.length]? := by rw [List.getElem?_append_right (by omega), List.getElem?_append_left (by simpa using h2)]
      rw [e1, e2, List.getElem?_set]
      by_cases h3 : k = A.length + j
      · subst h3
        rw [if_neg (by omega), if_pos (by omega), if_pos (by omega), if_pos (by omega)]
        simp
      · rw [if_neg (c := j = k - A.length) (by omega)]
        split
        · rfl
        · rw [if_neg (by omega)]
    · have e1 : (A ++ (B ++ C))[k]? = C[k - A.length - B.length]? := by rw [List.getElem?_append_right (by omega), List.getElem?_append_right (by omega)]
      have e2 : (A ++ (B.set j c ++ C))[k]? = C[k - A.length - B.length]? := by rw [List.getElem?_append_right (by omega), List.getElem?_append_right (by simp; omega), List.length_set]
      rw [e1, e2, if_neg (by omega), if_neg (by omega)]
/-- A byte of a region of records is another one. -/
theorem turned {τ : SL} {L1 L2 : List Rr} {r : Rr} {Z u : Nat} (ok : RollOk τ ⟨0, Z, u, L1 ++ r :: L2⟩) (hlim : τ.limits = false) {k : Nat} {c : UInt8} (h1 : (layAll 0 L1).length ≤ k) (h2 : k < (layAll 0 L1).length + (layF r ((layAll 0 L1).length : Nat)).length) (hc : τ.b[k]? ≠ some c) :
    (τ.write k [c]).2 = true ∧ Apart τ (τ.write k [c]).1 0 Z ∧ L1.length ≤ (parseF (((τ.write k [c]).1.b.drop 0).take Z)).1.length ∧ ((layAll 0 L1).length + 2 ≤ k → (parseF (((τ.write k [c]).1.b.drop 0).take Z)).1.length = L1.length) := by
  have hfit : 0 + Z ≤ τ.b.length := ok.fits
  have hroom : u ≤ Z := ok.room
  have hus : u = (layAll 0 (L1 ++ r :: L2)).length := ok.used
  rw [layAll_append, List.length_append] at hus
  simp only [layAll, List.length_append, Nat.zero_add] at hus
  obtain ⟨hw1, hw2⟩ := Apart.write (σ := τ) (A := 0) (Z := Z) (a := k) (l := [c]) ok.dead hlim (by simp; omega) (by omega) (by simp; omega)
  have hb : (τ.write k [c]).1.b = putB τ.b (0 + k) [c] := by
    rw [SL.write_plainR ok.dead hlim (by omega) (by simp; omega)]
    simp
  obtain ⟨n, hn⟩ := ok.laid.zeros
  have hn : (τ.b.drop 0).take Z = layAll 0 (L1 ++ r :: L2) ++ List.replicate n 0 := hn
  obtain ⟨rest, hrest⟩ : ∃ rest, (τ.b.drop 0).take Z = layAll 0 L1 ++ (layF r ((layAll 0 L1).length : Nat) ++ rest) := ⟨layAll ((layAll 0 L1).length + (layF r ((layAll 0 L1).length : Nat)).length) L2 ++ List.replicate n 0, by
    rw [hn, layAll_append, List.append_assoc]
    simp only [layAll, Nat.zero_add, List.append_assoc]⟩
  have hreg : ((τ.write k [c]).1.b.drop 0).take Z = layAll 0 L1 ++ ((layF r ((layAll 0 L1).length : Nat)).set (k - (layAll 0 L1).length) c ++ rest) := by
    rw [hb, reg_put (by omega) (by simp; omega), hrest]
    have := put_in (layAll 0 L1) (layF r ((layAll 0 L1).length : Nat)) rest (j := k - (layAll 0 L1).length) (by omega) c
    rw [show (layAll 0 L1).length + (k - (layAll 0 L1).length) = k by omega] at this
    exact this
  refine ⟨hw1, hw2, parse_ahead (L1 := L1) (L2 := r :: L2) ok.laid.ok ok.laid.rises hreg, fun h => ?_⟩
  rw [parse_turn (L1 := L1) (L2 := L2) (r := r) ok.laid.ok ok.laid.rises hreg (by omega) (by omega) ?_]
  intro e
  apply hc
  have hk : k < Z := by omega
  have g1 : τ.b[k]? = ((τ.b.drop 0).take Z)[k]? := by rw [reg_get, if_pos hk, Nat.zero_add]
  rw [g1, hrest, List.getElem?_append_right h1, List.getElem?_append_left (by omega), ← e, List.getElem?_set_self (by omega)]
end Go.Ev
end

/- Rolls without a program: the document's way of telling a record; the two slabs, side by side. No condition. -/
noncomputable section
namespace Go.Ev
open Go.Proofs
set_option linter.unusedVariables false
set_option maxRecDepth 100000

theorem num8_snoc (t : List UInt8) (c : UInt8) : num8 (t ++ [c]) = (num8 t * 256 + c.toNat) % 18446744073709551616 := by
  unfold num8
  rw [List.foldl_append]; rfl
theorem num8_lt : ∀ (k : Nat) (t : List UInt8), t.length = k → k ≤ 8 → num8 t < 256 ^ k
  | 0, t, h, _ => by
    rw [List.length_eq_zero_iff.1 h]; decide
  | k + 1, t, h, hk => by
    obtain ⟨a, c, rfl⟩ : ∃ a c, t = a ++ [c] := ⟨t.dropLast, t.getLast (by intro e; rw [e] at h; simp at h), (List.dropLast_concat_getLast _).symm⟩
    have ih := num8_lt k a (by simp at h; exact h) (by omega)
    have hc := c.toNat_lt
    rw [num8_snoc, Nat.pow_succ]
    have := Nat.mod_le (num8 a * 256 + c.toNat) 18446744073709551616
    omega
theorem num8_inj : ∀ (k : Nat) (a b : List UInt8), a.length = k → b.length = k → k ≤ 8 → num8 a = num8 b → a = b
  | 0, a, b, ha, hb, _, _ => by rw [List.length_eq_zero_iff.1 ha, List.length_eq_zero_iff.1 hb]
  | k + 1, a, b, ha, hb, hk, he => by
    obtain ⟨a, c, rfl⟩ : ∃ x c, a = x ++ [c] := ⟨a.dropLast, a.getLast (by intro e; rw [e] at ha; simp at ha), (List.dropLast_concat_getLast _).symm⟩
    obtain ⟨b, d, rfl⟩ : ∃ x c, b = x ++ [c] := ⟨b.dropLast, b.getLast (by intro e; rw [e] at hb; simp at hb), (List.dropLast_concat_getLast _).symm⟩
    have ha' : a.length = k := by simp at ha; exact ha
    have hb' : b.length = k := by simp at hb; exact hb
    have la := num8_lt k a ha' (by omega)
    have lb := num8_lt k b hb' (by omega)
    have hp : 256 ^ k ≤ 256 ^ 7 := Nat.pow_le_pow_right (by decide) (by omega)
    have h7 : 256 ^ 7 = 72057594037927936 := by decide
    have hc := c.toNat_lt
    have hd := d.toNat_lt
    rw [num8_snoc, num8_snoc] at he
    have h1 : num8 a = num8 b ∧ c.toNat = d.toNat := by omega
    rw [num8_inj k a b ha' hb' (by omega) h1.1, UInt8.toNat_inj.1 h1.2]
theorem bytes8_num8 {t : List UInt8} (h : t.length = 8) : bytes8 (BitVec.ofInt 64 (IntKind.i64.wrap (num8 t : Int))) = t := by
  refine num8_inj 8 _ _ (bytes8_len _) h (by decide) ?_
  have hl := num8_lt 8 t h (by decide)
  have h8 : 256 ^ 8 = 18446744073709551616 := by decide
  rw [num8_bytes8, BitVec.toNat_ofInt, wrap_i64i]
  split <;> omega
theorem readT_dec {s body : List UInt8} (h : Pk.readT s = some (body, [])) : s = Pk.encI (body.length : Int) ++ body := by
  unfold Pk.readT at h
  cases hr : Pk.readI s with
  | none => rw [hr] at h; cases h
  | some p =>
    obtain ⟨n, rest⟩ := p
    rw [hr] at h
    simp only at h
    split at h <;> first | contradiction | skip
    rename_i hq
    injection h with h
    injection h with h1 h2
    have h3 : rest.length ≤ n.toNat := by
      have := congrArg List.length h2
      simp at this; omega
    rw [List.take_of_length_le h3] at h1
    subst h1
    have h4 : n = (rest.length : Int) := by omega
    have := (Pk.readI_dec hr).1
    rw [h4] at this
    exact this
/-- The document's way of telling a record. -/
def nextR (l : List UInt8) (at_ : Int) : Option (Rr × Nat) :=
  if l.length < 10 ∨ (l.getD 0 0).toNat < 128 ∨ (l.getD 1 0).toNat < 128 then none else
  let n := ((l.getD 0 0).toNat - 128) * 128 + ((l.getD 1 0).toNat - 128)
  if n < 10 ∨ l.length - 10 < n ∨ (l.getD (10 + n - 1) 0).toNat ≠ 255 then none else
  match Pk.readT ((l.drop 18).take (n - 9)) with
  | none => none
  | some (body, rest) =>
    if rest = [] ∧ (l.drop 2).take 8 = bytes8 (Mk.sum (BitVec.ofInt 64 at_) ((l.drop 10).take n)) then some (⟨IntKind.i64.wrap (num8 ((l.drop 10).take 8) : Int), ⟨body.toArray⟩⟩, 10 + n) else none
theorem take10 (l : List UInt8) (n : Nat) : l.take (10 + n) = l.take 2 ++ (l.drop 2).take 8 ++ (l.drop 10).take n := by
  rw [List.take_add, show 10 = 2 + 8 by rfl, List.take_add]
theorem take2 {l : List UInt8} (h : 2 ≤ l.length) : l.take 2 = [l.getD 0 0, l.getD 1 0] := by
  match l, h with
  | a :: b :: l, _ => rfl
theorem nextR_eq (l : List UInt8) (at_ : Int) : nextR l at_ = wholeF l at_ := by
  unfold nextR wholeF
  by_cases h1 : l.length < 10 ∨ (l.getD 0 0).toNat < 128 ∨ (l.getD 1 0).toNat < 128
  · rw [if_pos h1, if_pos h1]
  rw [if_neg h1, if_neg h1]
  have hg0 := (l.getD 0 0).toNat_lt
  have hg1 := (l.getD 1 0).toNat_lt
  simp only
  generalize hn : ((l.getD 0 0).toNat - 128) * 128 + ((l.getD 1 0).toNat - 128) = n
  by_cases h2 : n < 10 ∨ l.length - 10 < n ∨ (l.getD (10 + n - 1) 0).toNat ≠ 255
  · rw [if_pos h2, if_pos h2]
  rw [if_neg h2, if_neg h2]
  cases hr : Pk.readT ((l.drop 18).take (n - 9)) with
  | none => rfl
  | some p =>
    obtain ⟨body, rest⟩ := p
    simp only
    have hiff : (rest = [] ∧ (l.drop 2).take 8 = bytes8 (Mk.sum (BitVec.ofInt 64 at_) ((l.drop 10).take n))) ↔ (rest = [] ∧ layF ⟨IntKind.i64.wrap (num8 ((l.drop 10).take 8) : Int), ⟨body.toArray⟩⟩ at_ = l.take (10 + n)) := by
      refine and_congr_right fun hrest => ?_
      subst hrest
      have hs := readT_dec hr
      have h255 : l.getD (10 + n - 1) 0 = 255 := UInt8.toNat_inj.1 (by
        have : (255 : UInt8).toNat = 255 := rfl
        omega)
      have hB : layB ⟨IntKind.i64.wrap (num8 ((l.drop 10).take 8) : Int), ⟨body.toArray⟩⟩ = (l.drop 10).take n := by
        unfold layB
        simp only [bs_mk]
        rw [bytes8_num8 (by simp; omega), List.append_assoc (bs := Pk.encI _), ← hs]
        have e1 : n = 8 + ((n - 9) + 1) := by omega
        conv => rhs; rw [e1, List.take_add, List.take_add, List.drop_drop]
        rw [List.append_assoc]
        congr 2
        rw [List.drop_drop]
        have e2 : 10 + 8 + (n - 9) = 10 + n - 1 := by omega
        rw [e2]
        have hlt : 10 + n - 1 < l.length := by omega
        rw [List.drop_eq_getElem_cons hlt]
        have : l[10 + n - 1] = 255 := by
          rw [← h255, List.getD_eq_getElem?_getD, List.getElem?_eq_getElem hlt]; rfl
        rw [this]; rfl
      have hlen : ((l.drop 10).take n).length = n := by simp; omega
      unfold layF
      rw [hB, hlen, take10, take2 (by omega)]
      have x0 : UInt8.ofNat ((128 + n / 128) % 256) = l.getD 0 0 := UInt8.toNat_inj.1 (by rw [toNat_ofNat (by omega)]; omega)
      have x1 : UInt8.ofNat ((128 + n % 128) % 256) = l.getD 1 0 := UInt8.toNat_inj.1 (by rw [toNat_ofNat (by omega)]; omega)
      rw [x0, x1]
      constructor
      · intro h; rw [h]
      · intro h
        exact (List.append_cancel_left (List.append_cancel_right h)).symm
    by_cases hq : rest = [] ∧ (l.drop 2).take 8 = bytes8 (Mk.sum (BitVec.ofInt 64 at_) ((l.drop 10).take n))
    · rw [if_pos hq, if_pos (hiff.1 hq)]
    · rw [if_neg hq, if_neg (fun h => hq (hiff.2 h))]
/-- The program's slab and the document's. -/
structure SLR (σ : SL) (τ : RL) : Prop where
  b : τ.b = σ.b
  dead : τ.dead = σ.dead
  writes : τ.writes = σ.writes
  lim : σ.limits = true → τ.left = σ.left ∧ 0 ≤ σ.left ∧ σ.left < 9223372036854775808 ∧ τ.torn = σ.torn
  nolim : σ.limits = false → τ.left < 0
section
variable {σ : SL} {τ : RL}
theorem SLR.has (h : SLR σ τ) (a n : Int) : τ.has a n = σ.has a n := by
  have h1 := SL.has_iff (σ := σ) (a := a) (n := n)
  have h2 := RL.has_iff (σ := τ) (a := a) (n := n)
  rw [h.b, h.dead] at h2
  have : τ.has a n = true ↔ σ.has a n = true := by rw [h1, h2]
  cases hx : τ.has a n <;> cases hy : σ.has a n <;> simp_all
theorem SLR.write (h : SLR σ τ) (a : Int) (l : List UInt8) : (τ.write a l).2 = (σ.write a l).2 ∧ SLR (σ.write a l).1 (τ.write a l).1 := by
  unfold RL.write SL.write
  rw [h.has]
  by_cases hh : σ.has a l.length = true
  · rw [if_pos hh, if_pos hh]
    cases hl : σ.limits with
    | true =>
      obtain ⟨g1, g2, g3, g4⟩ := h.lim hl
      by_cases h0 : σ.left = 0
      · rw [if_pos (show τ.left = 0 by omega), if_pos (show true = true ∧ σ.left = 0 from ⟨rfl, h0⟩)]
        exact ⟨rfl, ⟨by simp only [h.b, g4], rfl, by simp only [h.writes], fun _ => ⟨g1, g2, g3, g4⟩, fun q => by (simp only [hl] at q; cases q)⟩⟩
      · rw [if_neg (show ¬ τ.left = 0 by omega), if_neg (show ¬ (true = true ∧ σ.left = 0) from fun q => h0 q.2)]
        refine ⟨rfl, ⟨by simp only [h.b], h.dead, by simp only [h.writes], fun _ => ?_, fun q => by (simp only [hl] at q; cases q)⟩⟩
        simp only
        rw [if_pos (by omega), g1, wi64 (by omega) (by omega)]
        exact ⟨rfl, by omega, by omega, g4⟩
    | false =>
      have g := h.nolim hl
      rw [if_neg (show ¬ τ.left = 0 by omega), if_neg (show ¬ (false = true ∧ σ.left = 0) from fun q => by cases q.1)]
      refine ⟨rfl, ⟨by simp only [h.b], h.dead, by simp only [h.writes], fun q => by (simp only [hl] at q; cases q), fun _ => ?_⟩⟩
      simp only
      rw [if_neg (by omega)]
      exact g
  · rw [if_neg hh, if_neg hh]
    exact ⟨rfl, h⟩
theorem SLR.cut (h : SLR σ τ) {n torn : Int} (hn : n < 9223372036854775808) : SLR { σ with left := n, torn := torn, limits := decide (n ≥ 0) } { τ with left := max (-1) n, torn := torn } :=
  ⟨h.b, h.dead, h.writes, fun q => by
    have q : n ≥ 0 := of_decide_eq_true q
    exact ⟨by simp only; omega, q, hn, rfl⟩, fun q => by
    have q : ¬ n ≥ 0 := of_decide_eq_false q
    simp only; omega⟩
theorem SLR.revive (h : SLR σ τ) : SLR { σ with dead := false, limits := false } { τ with dead := false, left := -1 } :=
  ⟨h.b, rfl, h.writes, fun q => by (cases q), fun _ => by (show (-1 : Int) < 0); omega⟩
end
/-- The document's zeros. -/
def zeroLR : Nat → RL → Int → Nat → Nat → RL × Bool
  | 0, τ, _, _, _ => (τ, true)
  | f + 1, τ, base, at_, len => if at_ < len then
      (if (τ.write (base + at_) (List.replicate (min 32 (len - at_)) 0)).2 = true then zeroLR f (τ.write (base + at_) (List.replicate (min 32 (len - at_)) 0)).1 base (at_ + 32) len else ((τ.write (base + at_) (List.replicate (min 32 (len - at_)) 0)).1, false))
    else (τ, true)
theorem SLR.zeroL : ∀ (f : Nat) {σ : SL} {τ : RL} (base : Int) (at_ len : Nat), SLR σ τ → (zeroLR f τ base at_ len).2 = (zeroL f σ base at_ len).2 ∧ SLR (zeroL f σ base at_ len).1 (zeroLR f τ base at_ len).1
  | 0, σ, τ, _, _, _, h => ⟨rfl, h⟩
  | f + 1, σ, τ, base, at_, len, h => by
    unfold zeroLR Go.Ev.zeroL
    split
    · obtain ⟨h1, h2⟩ := h.write (base + at_) (List.replicate (min 32 (len - at_)) 0)
      rw [h1]
      split
      · exact SLR.zeroL f base (at_ + 32) len h2
      · exact ⟨rfl, h2⟩
    · exact ⟨rfl, h⟩
theorem zeroL_shift : ∀ (f : Nat) (σ : SL) (base : Int) (k at_ len : Nat), zeroL f σ base (k + at_) (k + len) = zeroL f σ (base + k) at_ len
  | 0, _, _, _, _, _ => rfl
  | f + 1, σ, base, k, at_, len => by
    unfold zeroL
    have e1 : base + ((k + at_ : Nat) : Int) = base + k + at_ := by push_cast; omega
    have e2 : k + len - (k + at_) = len - at_ := by omega
    have e3 : (k + at_ < k + len) ↔ at_ < len := by omega
    rw [e1, e2]
    by_cases hq : at_ < len
    · rw [if_pos hq, if_pos (e3.2 hq), show k + at_ + 32 = k + (at_ + 32) by omega, zeroL_shift]
    · rw [if_neg hq, if_neg (fun h => hq (e3.1 h))]
/-- What the document's Open answers. -/
def openR (τ : RL) (at_ size : Int) : OpE × RL :=
  if size < 32 ∨ 8192 < size ∨ at_ < 0 ∨ (τ.b.length : Int) < at_ ∨ (τ.b.length : Int) - at_ < size then (.arg, τ)
  else if τ.dead = true then (.down, τ)
  else match (if (((τ.b.drop at_.toNat).take size.toNat).drop (parseF ((τ.b.drop at_.toNat).take size.toNat)).2).any (fun c => !(c == 0)) = true
      then zeroLR (size.toNat - (parseF ((τ.b.drop at_.toNat).take size.toNat)).2 + 1) τ at_ (parseF ((τ.b.drop at_.toNat).take size.toNat)).2 size.toNat else (τ, true)) with
    | (τ', ok) => if ok = true then (.ok ⟨at_.toNat, size.toNat, (parseF ((τ.b.drop at_.toNat).take size.toNat)).2, (parseF ((τ.b.drop at_.toNat).take size.toNat)).1⟩, τ') else (.down, τ')
theorem openR_eq {σ : SL} {τ : RL} (h : SLR σ τ) (at_ size : Int) : (openR τ at_ size).1 = (openF σ at_ size).1 ∧ SLR (openF σ at_ size).2 (openR τ at_ size).2 := by
  unfold openR openF
  rw [h.b, h.dead]
  by_cases hc : size < 32 ∨ 8192 < size ∨ at_ < 0 ∨ (σ.b.length : Int) - size < at_
  · rw [if_pos hc, if_pos (by omega)]
    exact ⟨rfl, h⟩
  rw [if_neg hc, if_neg (by omega)]
  cases hd : σ.dead with
  | true =>
    have : σ.read at_ size = none := by
      unfold SL.read
      rw [if_neg]
      intro q
      have := (SL.has_iff.1 q).1
      rw [hd] at this; cases this
    rw [this, if_pos rfl]
    exact ⟨rfl, h⟩
  | false =>
    have hr := SL.read_plainR (σ := σ) (a := at_) (n := size) hd (by omega) (by omega) (by omega)
    rw [hr, if_neg (by decide)]
    simp only
    have hbl : ((σ.b.drop at_.toNat).take size.toNat).length = size.toNat := by simp; omega
    generalize (σ.b.drop at_.toNat).take size.toNat = b at hbl
    have hp := (parseL_le (b.length + 1) b 0 [] (Nat.zero_le _)).1
    have hp : (parseF b).2 ≤ b.length := hp
    unfold zeroF
    by_cases ha : (b.drop (parseF b).2).any (fun c => !(c == 0)) = true
    · rw [if_pos ha, if_pos ha]
      have hdl : (b.drop (parseF b).2).length = size.toNat - (parseF b).2 := by rw [List.length_drop, hbl]
      have hz := SLR.zeroL (size.toNat - (parseF b).2 + 1) at_ (parseF b).2 size.toNat h
      have hs := zeroL_shift (size.toNat - (parseF b).2 + 1) σ at_ (parseF b).2 0 (size.toNat - (parseF b).2)
      rw [Nat.add_zero, show (parseF b).2 + (size.toNat - (parseF b).2) = size.toNat by omega] at hs
      rw [hdl, ← hs]
      obtain ⟨z1, z2⟩ := hz
      generalize zeroLR _ _ _ _ _ = A at z1 z2
      generalize zeroL _ _ _ _ _ = B at z1 z2
      obtain ⟨A1, A2⟩ := A
      obtain ⟨B1, B2⟩ := B
      simp only at z1 z2 ⊢
      subst z1
      split
      · exact ⟨rfl, z2⟩
      · exact ⟨rfl, z2⟩
    · rw [if_neg ha, if_neg ha]
      exact ⟨rfl, h⟩
/-- What the document's Append answers. -/
def appR (τ : RL) (ro : RO) (r : Rr) : ApE × RL × RO :=
  if r.seq ≤ lastF ro.l ∨ 420 < (bs r.body).length then (.arg, τ, ro)
  else if (ro.size : Int) - ro.used < (layF r ro.used).length then (.full, τ, ro)
  else if (τ.write ((ro.at_ : Int) + ro.used) (layF r ro.used)).2 = true then (.ok, (τ.write ((ro.at_ : Int) + ro.used) (layF r ro.used)).1, { ro with l := ro.l ++ [r], used := ro.used + (layF r ro.used).length })
  else (.down, (τ.write ((ro.at_ : Int) + ro.used) (layF r ro.used)).1, ro)
theorem appR_eq {σ : SL} {τ : RL} (h : SLR σ τ) (ro : RO) (r : Rr) : (appR τ ro r).1 = (appF σ ro r).1 ∧ (appR τ ro r).2.2 = (appF σ ro r).2.2 ∧ SLR (appF σ ro r).2.1 (appR τ ro r).2.1 := by
  unfold appR appF
  split
  · exact ⟨rfl, rfl, h⟩
  split
  · exact ⟨rfl, rfl, h⟩
  obtain ⟨h1, h2⟩ := h.write ((ro.at_ : Int) + ro.used) (layF r ro.used)
  rw [h1]
  split
  · exact ⟨rfl, rfl, h2⟩
  · exact ⟨rfl, rfl, h2⟩
end Go.Ev
end

/- Rolls: the document's bytes of a number, of a record. No condition. -/
noncomputable section
namespace Go.Ev
open Go.Proofs
set_option linter.unusedVariables false
set_option maxRecDepth 100000

theorem byteVals_set (l : List UInt8) (i : Nat) (c : UInt8) : (byteVals l).set i (.int .u8 (c.toNat : Int)) = byteVals (l.set i c) := by simp [byteVals, List.map_set]
theorem set_zeros (m : Nat) (D : List UInt8) (c : UInt8) : (List.replicate (m + 1) 0 ++ D).set m c = List.replicate m 0 ++ c :: D := by
  rw [List.replicate_succ', List.append_assoc, List.set_append_right _ _ (by simp)]
  simp
theorem rbytes_spec {s : St} (wf : WF s) (h : BitVec 64) : Cw Try.prog 52 [.int .u64 (h.toNat : Int)] s fun r s' => K0 s s' ∧ Ob s.next s' r (bytes8 h) := by
  have hp : Hp (fun _ => False) s [] [] s := Hp.start _ wf _ (by simp)
  refine Cw.enterS Try.func52 rfl rfl ?_
  refine Sm.seqW ?_
  conv => whnf
  refine Sm.seqW ?_
  conv => whnf
  refine hp.mks B26 rfl 8 rfl rfl (by decide) ?_
  clear hp
  intro b s1 hp _
  rw [← byteVals_replicate] at hp
  conv => whnf
  refine Sm.live [0, 3] ?_
  conv => whnf
  refine Sm.seq ?_
  refine Sm.seqW ?_
  conv => whnf
  refine Sm.block ?_
  refine Sm.loop ?_
  have h8 : (bytes8 h).drop 8 = [] := List.drop_of_length_le (by rw [bytes8_len]; omega)
  refine Lp.ofS (α := Nat) (fun j => [(0, .int .u64 ((h.toNat / 256 ^ j : Nat) : Int)), (3, .slice (some ⟨b, 0, none⟩) 8 8), (4, .int .i64 (7 - (j : Int)))])
    (fun j s' => j ≤ 8 ∧ Hp (fun _ => False) s [] [blkA b b (byteVals (List.replicate (8 - j) 0 ++ (bytes8 h).drop (8 - j))) 1] s') (fun j => 8 - j) ?_ 0
    (subK_ok (by refine ⟨congrArg (fun x : Nat => some (Value.int .u64 (x : Int))) (by simp : h.toNat = h.toNat / 256 ^ 0), rfl, rfl, trivial⟩)) ⟨by omega, by rw [Nat.sub_zero, h8, List.append_nil]; exact hp⟩
  clear hp
  rintro j s1 ⟨hj, hp⟩
  refine Sm.seq ?_
  refine Sm.ofW ?_
  conv => whnf
  refine Br.mk (fun hc => ?_) (fun hc => ?_)
  · have hc : j ≤ 7 := by have := of_decide_eq_true hc; omega
    conv => whnf
    refine Sm.seq ?_
    refine Sm.block ?_
    refine Sm.ofW ?_
    conv => whnf
    refine Om.of _ (rfl) ?_
    conv => whnf
    have e1 : (7 - (j : Int)) = ((7 - j : Nat) : Int) := by omega
    refine Om.of _ ((congrArg (fun x => evIndexAddr Try.prog 32 (.slice (some ⟨b, 0, none⟩) 8 8) (.int .i64 x)) e1).trans (idx_at B26 .i64 (by omega))) ?_
    conv => whnf
    have e2 : IntKind.u8.wrap (((h.toNat / 256 ^ j : Nat) : Int).tmod 256) = (((bytes8 h)[7 - j]'(by rw [bytes8_len]; omega)).toNat : Int) := by
      have g1 : (bytes8 h)[7 - j]'(by rw [bytes8_len]; omega) = UInt8.ofNat (h.toNat / 256 ^ j % 256) := by
        have : 56 - 8 * (7 - j) = 8 * j := by omega
        simp only [bytes8, List.getElem_map, List.getElem_range, this]
        rw [Nat.pow_mul]
      rw [g1, toNat_ofNat (Nat.mod_lt _ (by decide)), show ((h.toNat / 256 ^ j : Nat) : Int).tmod 256 = ((h.toNat / 256 ^ j % 256 : Nat) : Int) by rw [Int.tmod_eq_emod_of_nonneg (Int.natCast_nonneg _)]; push_cast; rfl, wrap_u8]
      have := Nat.mod_lt (h.toNat / 256 ^ j) (show 0 < 256 by decide)
      omega
    rw [e2]
    refine hp.store (by repeat (first | exact Rm.here | apply Rm.there)) (by rw [byteVals_length]; simp [bytes8_len]; omega) rfl rfl rfl rfl ?_
    clear hp
    intro s hp _
    conv => whnf
    have e3 : (byteVals (List.replicate (8 - j) 0 ++ (bytes8 h).drop (8 - j))).set (0 + (7 - j) * 1) (.int .u8 (((bytes8 h)[7 - j]'(by rw [bytes8_len]; omega)).toNat : Int)) = byteVals (List.replicate (8 - (j + 1)) 0 ++ (bytes8 h).drop (8 - (j + 1))) := by
      rw [byteVals_set]
      congr 1
      have e4 : 8 - j = (7 - j) + 1 := by omega
      rw [e4, show 0 + (7 - j) * 1 = 7 - j by omega, set_zeros, show 8 - (j + 1) = 7 - j by omega, ← List.drop_eq_getElem_cons]
    rw [e3] at hp
    refine Om.of _ (rfl) ?_
    conv => whnf
    refine Sm.ofW ?_
    conv => whnf
    have e5 : IntKind.u64.wrap (((h.toNat / 256 ^ j : Nat) : Int).tdiv 256) = ((h.toNat / 256 ^ (j + 1) : Nat) : Int) := by
      have hy : h.toNat / 256 ^ j < 18446744073709551616 := Nat.lt_of_le_of_lt (Nat.div_le_self _ _) h.isLt
      rw [Nat.pow_succ, ← Nat.div_div_eq_div_mul]
      generalize h.toNat / 256 ^ j = y at hy
      rw [show (y : Int).tdiv 256 = ((y / 256 : Nat) : Int) by rw [Int.tdiv_eq_ediv_of_nonneg (Int.natCast_nonneg _)]; push_cast; rfl, wrap_u64]
      congr 1
      omega
    have e6 : IntKind.i64.wrap (7 - (j : Int) - 1) = 7 - ((j + 1 : Nat) : Int) := by rw [wi64 (by omega) (by omega)]; omega
    exact ⟨j + 1, by (show 8 - (j + 1) < 8 - j); omega, subK_ok (by refine ⟨congrArg (fun x => some (Value.int .u64 x)) e5, rfl, congrArg (fun x => some (Value.int .i64 x)) e6, trivial⟩), by omega, hp⟩
  · have hc : j = 8 := by have := of_decide_eq_false hc; omega
    subst hc
    conv => whnf
    refine Sm.ofW ?_
    conv => whnf
    rw [Nat.sub_self, List.replicate_zero, List.nil_append, List.drop_zero] at hp
    have hp2 := hp.blkOn (n := 8) .here (by rw [byteVals_length, bytes8_len])
    exact ⟨hp2.fr, Ob.of (hp2.out .here)⟩
theorem rframe_spec {z : St} (wf : WF z) (at_ : Int) (r : Rr) (hb : (bs r.body).length ≤ 100000000) :
    Cw Try.prog 41 [.int .i64 at_, r.val] z fun v s' => K0 z s' ∧ Ob z.next s' v (layF r at_) := by
  have hp : Hp (fun _ => False) z [] [] z := Hp.start _ wf _ (by simp)
  have hel := Pk.encI_len (n := ((bs r.body).length : Int)) (by unfold Pk.inR; omega)
  have hlB := layB_len r
  refine Cw.enterS Try.func41 rfl rfl ?_
  refine Sm.seqW ?_
  conv => whnf
  refine hp.var (cs := r.cells) (e := 2) rfl rfl ?_
  clear hp
  intro p3 s hp _
  conv => whnf
  refine Sm.live [0, 3] ?_
  conv => whnf
  refine Sm.seqC (fun e L' s' => e = .normal ∧ (∃ κ v, Hp (fun _ => False) z [] [onA κ v 1 (layB r).length (byteVals (layB r))] s' ∧ Sub [(0, .int .i64 at_), (5, v)] L')) ?_ ?_
  · conv => whnf
    refine ⟨[0, 1, 3, 7, 0, 16, 63, 127, 0, 511, 1023], by decide +kernel, by decide +kernel, ?_⟩
    conv => whnf
    (refine hp.load (by repeat (first | exact Has.here | apply Has.there | (apply Has.swap; repeat (first | exact HasR.here | apply HasR.there)))) (by rfl) rfl rfl rfl ?_; conv => whnf)
    rw [u64_of]
    refine hp.rst.callO (rbytes_spec hp.rst.wf (BitVec.ofInt 64 r.seq)) ?_
    intro v2 κ2 s1 h1 k1
    conv => whnf
    refine hp.dkN h1 k1 ?_
    clear hp h1 k1
    intro s hp
    conv => whnf
    (refine hp.load (by repeat (first | exact Has.here | apply Has.there | (apply Has.swap; repeat (first | exact HasR.here | apply HasR.there)))) (by rfl) rfl rfl rfl ?_; conv => whnf)
    refine hp.rst.callO (refText_spec hp.rst.wf (l := []) (Sl.nil _ 1) (by simp) r.body (by simp; omega)) ?_
    intro v3 κ3 s1 h1 k1
    conv => whnf
    refine hp.dkN h1 k1 ?_
    clear hp h1 k1
    intro s hp
    conv => whnf
    refine hp.rst.app B26 Try.underlying32 rfl (κ := κ2) (v := v2) (by repeat (first | exact Rm.here | apply Rm.there)) (elems_sl (hp.rst.slF (κ := κ3) (v := v3) (by repeat (first | exact Rm.here | apply Rm.there)))) (by simp [byteVals]) (byteVals_one _) (by simp [bytes8_len]; omega) ?_
    intro v4 κ4 s4 h4
    conv => whnf
    rw [← byteVals_append] at h4
    refine hp.dkA h4 ?_ ?_
    all_goals
      clear hp h4
      intro s hp
      conv => whnf
      refine hp.rst.one B26 rfl ?_
      intro v5 b5 s5 h5 k5
      conv => whnf
      refine hp.dkN h5 k5 ?_
      clear hp h5 k5
      intro s hp
      conv => whnf
      have x5 : Sl (reset s) (some b5) v5 1 1 [.int .u8 255] := Own.sl (hp.rst.okF _ List.mem_cons_self)
      refine hp.rst.app B26 Try.underlying32 rfl (κ := κ4) (v := v4) (by repeat (first | exact Rm.here | apply Rm.there)) (elems_sl x5) rfl rfl (by simp [bytes8_len]; omega) ?_
      intro v6 κ6 s6 h6
      conv => whnf
      rw [show (.int .u8 255 : Value) = .int .u8 ((255 : Nat) : Int) from rfl, byteVals_snoc _ _ (by decide)] at h6
      have hB : bytes8 (BitVec.ofInt 64 r.seq) ++ ([] ++ Pk.encI ((bs r.body).length : Int) ++ bs r.body) ++ [UInt8.ofNat 255] = layB r := by
        unfold layB
        simp
      rw [hB] at h6
      have hl6 : (bytes8 (BitVec.ofInt 64 r.seq)).length + ([] ++ Pk.encI ((bs r.body).length : Int) ++ bs r.body).length + 1 = (layB r).length := by rw [← hB]; simp; omega
      rw [hl6] at h6
      refine hp.dkA h6 ?_ ?_
      all_goals
        clear hp h6 x5
        intro s hp
        conv => whnf
        exact ⟨rfl, κ6, v6, hp.pik (by repeat (first | exact Pik.nil | exact Pik.refl _ | exact Rm.here | apply Rm.there | apply Pik.cons | apply Pik.skip)), subK_ok ⟨rfl, rfl, trivial⟩⟩
  clear hp
  rintro e L' s ⟨rfl, κ5, v5, hp, hs⟩
  refine Sm.weak _ hs ?_
  clear hs
  obtain ⟨a5, c5, rfl⟩ := (hp.slF .here).shape
  generalize hn : (layB r).length = n at hlB hp ⊢
  refine Sm.seqW ?_
  conv => whnf
  refine Om.of _ (quo_nat (n := n) (m := 128) (by omega) (by omega)) ?_
  conv => whnf
  refine Om.of _ (rem_nat (n := n) (m := 128) (by omega)) ?_
  conv => whnf
  have e1 : IntKind.u8.wrap (IntKind.i64.wrap (128 + ((n / 128 : Nat) : Int))) = (((128 + n / 128) % 256 : Nat) : Int) := by
    rw [wi64 (by omega) (by omega), show (128 + ((n / 128 : Nat) : Int)) = ((128 + n / 128 : Nat) : Int) by push_cast; rfl, wrap_u8]
  have e2 : IntKind.u8.wrap (IntKind.i64.wrap (128 + ((n % 128 : Nat) : Int))) = (((128 + n % 128) % 256 : Nat) : Int) := by
    rw [wi64 (by omega) (by omega), show (128 + ((n % 128 : Nat) : Int)) = ((128 + n % 128 : Nat) : Int) by push_cast; rfl, wrap_u8]
  rw [e1, e2]
  refine hp.lit (cs := byteVals [UInt8.ofNat ((128 + n / 128) % 256), UInt8.ofNat ((128 + n % 128) % 256)]) (e := 1) (by
    have g1 : (UInt8.ofNat ((128 + n / 128) % 256)).toNat = (128 + n / 128) % 256 := toNat_ofNat (by omega)
    have g2 : (UInt8.ofNat ((128 + n % 128) % 256)).toNat = (128 + n % 128) % 256 := toNat_ofNat (by omega)
    rw [show byteVals [UInt8.ofNat ((128 + n / 128) % 256), UInt8.ofNat ((128 + n % 128) % 256)] = [.int .u8 ((UInt8.ofNat ((128 + n / 128) % 256)).toNat : Int), .int .u8 ((UInt8.ofNat ((128 + n % 128) % 256)).toNat : Int)] from rfl, g1, g2]
    rfl) ?_
  clear hp
  intro b7 s7 hp _
  conv => whnf
  refine Sm.live [0, 5, 6] ?_
  conv => whnf
  have hp := hp.blkOn (n := 2) (by repeat (first | exact Rm.here | apply Rm.there)) rfl
  refine Sm.seqW ?_
  conv => whnf
  rw [u64_of]
  have s5 : Sb s7 κ5 (.slice a5 n c5) (layB r) := Sb.of (n := n) (hp.slF (by repeat (first | exact Rm.here | apply Rm.there)))
  refine (rsum_spec s7 s5 (by omega) (BitVec.ofInt 64 at_)).mono ?_
  rintro _ _ ⟨rfl, rfl⟩
  conv => whnf
  clear s5
  refine hp.callO (rbytes_spec hp.wf (Mk.sum (BitVec.ofInt 64 at_) (layB r))) ?_
  clear hp
  intro v8 κ8 s hp _
  conv => whnf
  refine hp.app B26 Try.underlying32 rfl (κ := some b7) (v := .slice (some ⟨b7, 0, none⟩) 2 2) (by repeat (first | exact Rm.here | apply Rm.there)) (elems_sl (hp.slF (κ := κ8) (v := v8) (by repeat (first | exact Rm.here | apply Rm.there)))) (by simp [byteVals]) (byteVals_one _) (by simp [bytes8_len]) ?_
  clear hp
  intro v9 κ9 s hp
  conv => whnf
  refine Sm.live [5, 6] ?_
  conv => whnf
  refine Sm.seqW ?_
  conv => whnf
  refine hp.app B26 Try.underlying32 rfl (κ := κ9) (v := v9) (by repeat (first | exact Rm.here | apply Rm.there)) (elems_sl (hp.slF (κ := κ5) (v := .slice a5 n c5) (by repeat (first | exact Rm.here | apply Rm.there)))) (by simp [byteVals, hn]) (byteVals_one _) (by simp [bytes8_len]; omega) ?_
  clear hp
  intro v10 κ10 s hp
  conv => whnf
  refine Sm.ofW ?_
  conv => whnf
  rw [← byteVals_append, ← byteVals_append] at hp
  have hF : [UInt8.ofNat ((128 + n / 128) % 256), UInt8.ofNat ((128 + n % 128) % 256)] ++ bytes8 (Mk.sum (BitVec.ofInt 64 at_) (layB r)) ++ layB r = layF r at_ := by unfold layF; rw [hn]
  rw [hF] at hp
  exact ⟨hp.fr, Ob.of (hp.out .here)⟩
end Go.Ev
end

/- Rolls: the document's way of telling a record. No condition. -/
noncomputable section
namespace Go.Ev
open Go.Proofs
set_option linter.unusedVariables false
set_option maxRecDepth 100000

def nextL (b : List UInt8) (u : Nat) (last : Int) : Option (Rr × Nat) := match wholeF (b.drop u) u with
  | none => none
  | some (x, n) => if x.seq ≤ last then none else some (x, n)
theorem getD_drop (b : List UInt8) (u i : Nat) (h : u + i < b.length) : (b.drop u).getD i 0 = b[u + i] := by
  rw [List.getD_eq_getElem?_getD, List.getElem?_drop, List.getElem?_eq_getElem h]; rfl
theorem seq_step (m : Nat) (c : UInt8) : IntKind.i64.wrap (IntKind.i64.wrap (IntKind.i64.wrap (m : Int) * 2 ^ min (Int.toNat 8) IntKind.i64.bits) + IntKind.i64.wrap (c.toNat : Int)) = IntKind.i64.wrap (((m * 256 + c.toNat) % 18446744073709551616 : Nat) : Int) := by
  have m1 : min (Int.toNat 8) IntKind.i64.bits = 8 := by decide
  have hc := c.toNat_lt
  rw [m1, show (2 : Int) ^ 8 = 256 by decide]
  simp only [wrap_i64i]
  repeat' split
  all_goals omega
theorem nx_rest {rest : List UInt8} {A B : Prop} (ha : A) (hb : B) : (decide ((rest.length : Int) > 0) = true) ↔ ¬ (rest = [] ∧ A ∧ B) := by
  rw [decide_eq_true_eq]
  constructor
  · rintro h ⟨rfl, _⟩
    simp at h
  · intro h
    cases rest with
    | nil => exact absurd ⟨rfl, ha, hb⟩ h
    | cons x l => simp only [List.length_cons]; omega
theorem nx_none {A B : Prop} [Decidable (A ∧ B)] {x : Rr} {n : Nat} {last : Int} (h : ¬ (A ∧ B ∧ ¬ x.seq ≤ last)) : (match (if A ∧ B then some (x, n) else none : Option (Rr × Nat)) with
    | none => none
    | some (x, n) => if x.seq ≤ last then none else some (x, n)) = none := by
  by_cases hc : A ∧ B
  · rw [if_pos hc]
    simp only
    rw [if_pos (Decidable.byContradiction fun hl => h ⟨hc.1, hc.2, hl⟩)]
  · rw [if_neg hc]
theorem nx_hd {S T : List UInt8} (h : (!(S == T)) = true) : S ≠ T := by intro e; subst e; simp at h
theorem nx_hd' {S T : List UInt8} (h : (!(S == T)) = false) : S = T := by simpa using h
theorem rnext_spec {z : St} (wf : WF z) {κ : Option Nat} {v : Value} {b : List UInt8} (hv : Sb z κ v b) (hl : b.length ≤ 100000) {u : Nat} (hu : u ≤ b.length) (last : Int) :
    Cw Try.prog 39 [v, .int .i64 (u : Int), .int .i64 last] z fun r s' => K0 z s' ∧ ((nextL b u last = none ∧ r = .tuple #[Rr.val ⟨0, ⟨#[]⟩⟩, .int .i64 0, .bool false]) ∨ ∃ x n, nextL b u last = some (x, n) ∧ r = .tuple #[x.val, .int .i64 (n : Int), .bool true]) := by
  have hp : Hp (fun _ => False) z [slA κ v 1 b.length (byteVals b)] [] z := Hp.start _ wf _ (by simp; exact hv)
  obtain ⟨a, c, rfl⟩ := hv.shape
  have hN : nextL b u last = (match nextR (b.drop u) u with
    | none => none
    | some (x, n) => if x.seq ≤ last then none else some (x, n)) := by unfold nextL; rw [nextR_eq]
  unfold nextR at hN
  have hll : (b.drop u).length = b.length - u := by simp
  refine Cw.enterS Try.func39 rfl rfl ?_
  refine Sm.seqW ?_
  conv => whnf
  refine hp.alloc (cs := Rr.cells ⟨0, ⟨#[]⟩⟩) (e := 2) rfl rfl rfl rfl rfl ?_
  clear hp
  intro p6 s hp _
  conv => whnf
  refine Sm.live [0, 1, 2, 6] ?_
  conv => whnf
  refine Sm.seq ?_
  refine Sm.seqW ?_
  conv => whnf
  have e1 : IntKind.i64.wrap ((u : Int) + 10) = ((u + 10 : Nat) : Int) := by rw [wi64 (by omega) (by omega)]; push_cast; rfl
  rw [e1]
  refine Sm.ofW ?_
  conv => whnf
  by_cases h1 : b.length < u + 10
  · rw [if_pos (.inl (by omega))] at hN
    refine Br.yes (decide_eq_true (by omega)) ?_
    conv => whnf
    refine hp.storeW (vs := Rr.cells ⟨0, ⟨#[]⟩⟩) (C := Rr.cells ⟨0, ⟨#[]⟩⟩) rfl (by repeat (first | exact Rm.here | apply Rm.there)) (by rfl) rfl rfl rfl ?_
    clear hp
    intro s hp _
    conv => whnf
    refine hp.loadA (l := Rr.cells ⟨0, ⟨#[]⟩⟩) (by repeat (first | exact Has.here | apply Has.there | (apply Has.swap; repeat (first | exact HasR.here | apply HasR.there)))) rfl (by rfl) rfl rfl ?_
    conv => whnf
    exact ⟨hp.fr, .inl ⟨hN, rfl⟩⟩
  refine Br.no (decide_eq_false (by omega)) ?_
  conv => whnf
  have g0 := getD_drop b u 0 (by omega)
  have g1 := getD_drop b u 1 (by omega)
  rw [g0, g1] at hN
  have hx0 := (b[u + 0]'(by omega)).toNat_lt
  have hx1 := (b[u + 1]'(by omega)).toNat_lt
  obtain ⟨q0, i0, j0⟩ := idx8 (hp.slR .here) (i := u + 0) (by omega)
  obtain ⟨q1, i1, j1⟩ := idx8 (hp.slR .here) (i := u + 1) (by omega)
  generalize hX0 : (b[u + 0]'(by omega)).toNat = x0 at hN hx0 j0
  generalize hX1 : (b[u + 1]'(by omega)).toNat = x1 at hN hx1 j1
  have e2 : IntKind.i64.wrap ((u : Int) + 1) = ((u + 1 : Nat) : Int) := by rw [wi64 (by omega) (by omega)]; push_cast; rfl
  refine Sm.seq ?_
  refine Sm.seqC (fun e L' s' => e = .normal ∧ s' = s ∧ ∃ q, Sub [(0, .slice a b.length c), (1, .int .i64 (u : Int)), (2, .int .i64 last), (6, .pointer (some ⟨p6, 0, none⟩)), (34, .bool q)] L' ∧ (q = true ↔ (x0 < 128 ∨ x1 < 128))) ?_ ?_
  · conv => whnf
    refine Om.of _ (i0) ?_
    conv => whnf
    refine Om.of _ (j0) ?_
    conv => whnf
    by_cases c0 : x0 < 128
    · have d0 : decide ((x0 : Int) < 128) = true := decide_eq_true (by omega)
      repeat (first | (refine Br.yes (by first | with_reducible rfl | exact d0) ?_; conv => whnf) | (refine Br.no (by first | with_reducible rfl) ?_; conv => whnf))
      exact ⟨rfl, rfl, true, subK_ok ⟨rfl, rfl, rfl, rfl, rfl, trivial⟩, by simp [c0]⟩
    · have d0 : decide ((x0 : Int) < 128) = false := decide_eq_false (by omega)
      repeat (first | (refine Br.no (by first | with_reducible rfl | exact d0) ?_; conv => whnf))
      rw [e2]
      refine Om.of _ (i1) ?_
      conv => whnf
      repeat (first | (refine Br.no (by first | with_reducible rfl | exact d0) ?_; conv => whnf))
      refine Om.of _ (j1) ?_
      conv => whnf
      repeat (first | (refine Br.no (by first | with_reducible rfl | exact d0) ?_; conv => whnf))
      exact ⟨rfl, rfl, _, subK_ok ⟨rfl, rfl, rfl, rfl, rfl, trivial⟩, by rw [decide_eq_true_eq]; omega⟩
  rintro e L' s ⟨rfl, rfl, q, hsub, hq⟩
  refine Sm.weak _ hsub ?_
  clear hsub
  refine Sm.ofW ?_
  conv => whnf
  by_cases h2 : x0 < 128 ∨ x1 < 128
  · rw [if_pos (.inr h2)] at hN
    refine Br.yes (hq.2 h2) ?_
    conv => whnf
    refine hp.storeW (vs := Rr.cells ⟨0, ⟨#[]⟩⟩) (C := Rr.cells ⟨0, ⟨#[]⟩⟩) rfl (by repeat (first | exact Rm.here | apply Rm.there)) (by rfl) rfl rfl rfl ?_
    clear hp
    intro s hp _
    conv => whnf
    refine hp.loadA (l := Rr.cells ⟨0, ⟨#[]⟩⟩) (by repeat (first | exact Has.here | apply Has.there | (apply Has.swap; repeat (first | exact HasR.here | apply HasR.there)))) rfl (by rfl) rfl rfl ?_
    conv => whnf
    exact ⟨hp.fr, .inl ⟨hN, rfl⟩⟩
  refine Br.no (by cases q with | false => rfl | true => exact absurd (hq.1 rfl) h2) ?_
  conv => whnf
  rw [if_neg (by omega)] at hN
  simp only at hN
  refine Sm.seqW ?_
  conv => whnf
  refine ⟨[0, 0, 3, 7, 15, 31, 63, 0, 0, 256, 896, 1920, 3968, 8191, 16383, 32767], by decide +kernel, by decide +kernel, ?_⟩
  conv => whnf
  refine Om.of _ (i0) ?_
  conv => whnf
  refine Om.of _ (j0) ?_
  conv => whnf
  rw [e2]
  refine Om.of _ (i1) ?_
  conv => whnf
  refine Om.of _ (j1) ?_
  conv => whnf
  have k1 : IntKind.i64.wrap ((x0 : Nat) : Int) = x0 := wi64 (by omega) (by omega)
  have k2 : IntKind.i64.wrap ((x0 : Int) - 128) = ((x0 - 128 : Nat) : Int) := by rw [wi64 (by omega) (by omega)]; omega
  have k3 : IntKind.i64.wrap (((x0 - 128 : Nat) : Int) * 128) = (((x0 - 128) * 128 : Nat) : Int) := by rw [wi64 (by omega) (by omega)]; omega
  have k4 : IntKind.i64.wrap ((x1 : Nat) : Int) = x1 := wi64 (by omega) (by omega)
  have k5 : IntKind.i64.wrap ((((x0 - 128) * 128 : Nat) : Int) + (x1 : Int)) = (((x0 - 128) * 128 + x1 : Nat) : Int) := by rw [wi64 (by omega) (by omega)]; omega
  have k6 : IntKind.i64.wrap ((((x0 - 128) * 128 + x1 : Nat) : Int) - 128) = (((x0 - 128) * 128 + (x1 - 128) : Nat) : Int) := by rw [wi64 (by omega) (by omega)]; omega
  rw [k1, k2, k3, k4, k5, k6]
  clear k1 k2 k3 k4 k5 k6
  have hn1 : (x0 - 128) * 128 + (x1 - 128) < 16384 := by omega
  generalize (x0 - 128) * 128 + (x1 - 128) = n at hN hn1
  refine Sm.live [0, 1, 2, 6, 9] ?_
  conv => whnf
  clear i0 i1 j0 j1 hX0 hX1 hx0 hx1 h2 g0 g1 e1 e2
  refine Sm.seq ?_
  have e3 : IntKind.i64.wrap (IntKind.i64.wrap ((u : Int) + 10) + (n : Int)) = ((u + 10 + n : Nat) : Int) := by rw [wi64 (n := (u : Int) + 10) (by omega) (by omega), wi64 (by omega) (by omega)]; push_cast; rfl
  have e4 : IntKind.i64.wrap (IntKind.i64.wrap ((u : Int) + 9) + (n : Int)) = ((u + 9 + n : Nat) : Int) := by rw [wi64 (n := (u : Int) + 9) (by omega) (by omega), wi64 (by omega) (by omega)]; push_cast; rfl
  refine Sm.seqC (fun e L' s' => e = .normal ∧ s' = s ∧ ∃ q, Sub [(0, .slice a b.length c), (1, .int .i64 (u : Int)), (2, .int .i64 last), (6, .pointer (some ⟨p6, 0, none⟩)), (9, .int .i64 (n : Int)), (71, .bool q)] L' ∧ (q = true ↔ (n < 10 ∨ (b.drop u).length - 10 < n ∨ ((b.drop u).getD (10 + n - 1) 0).toNat ≠ 255))) ?_ ?_
  · conv => whnf
    by_cases c0 : n < 10
    · have d0 : decide ((n : Int) < 10) = true := decide_eq_true (by omega)
      repeat (first | (refine Br.yes (by first | with_reducible rfl | exact d0) ?_; conv => whnf) | (refine Br.no (by first | with_reducible rfl) ?_; conv => whnf))
      exact ⟨rfl, rfl, true, subK_ok ⟨rfl, rfl, rfl, rfl, rfl, rfl, trivial⟩, by simp [c0]⟩
    have d0 : decide ((n : Int) < 10) = false := decide_eq_false (by omega)
    by_cases c1 : (b.drop u).length - 10 < n
    · have d1 : decide (IntKind.i64.wrap (IntKind.i64.wrap ((u : Int) + 10) + (n : Int)) > (b.length : Int)) = true := by rw [e3]; exact decide_eq_true (by omega)
      repeat (first | (refine Br.no (by first | with_reducible rfl | exact d0) ?_; conv => whnf) | (refine Br.yes (by first | with_reducible rfl | exact d1) ?_; conv => whnf))
      exact ⟨rfl, rfl, true, subK_ok ⟨rfl, rfl, rfl, rfl, rfl, rfl, trivial⟩, iff_of_true rfl (.inr (.inl c1))⟩
    have d1 : decide (IntKind.i64.wrap (IntKind.i64.wrap ((u : Int) + 10) + (n : Int)) > (b.length : Int)) = false := by rw [e3]; exact decide_eq_false (by omega)
    have hlt : u + 9 + n < b.length := by omega
    obtain ⟨q2, i2, j2⟩ := idx8 (hp.slR .here) (i := u + 9 + n) hlt
    repeat (first | (refine Br.no (by first | with_reducible rfl | exact d0 | exact d1) ?_; conv => whnf))
    rw [e4]
    refine Om.of _ (i2) ?_
    conv => whnf
    repeat (first | (refine Br.no (by first | with_reducible rfl | exact d0 | exact d1) ?_; conv => whnf))
    refine Om.of _ (j2) ?_
    conv => whnf
    repeat (first | (refine Br.no (by first | with_reducible rfl | exact d0 | exact d1) ?_; conv => whnf))
    have g2 := getD_drop b u (10 + n - 1) (by omega)
    have e5 : b[u + (10 + n - 1)]'(by omega) = b[u + 9 + n] := by congr 1; omega
    rw [e5] at g2
    refine ⟨rfl, rfl, _, subK_ok ⟨rfl, rfl, rfl, rfl, rfl, rfl, trivial⟩, ?_⟩
    rw [g2, bne_iff_ne]
    omega
  rintro e L' s ⟨rfl, rfl, q, hsub, hq⟩
  refine Sm.weak _ hsub ?_
  clear hsub
  refine Sm.ofW ?_
  conv => whnf
  by_cases h2 : n < 10 ∨ (b.drop u).length - 10 < n ∨ ((b.drop u).getD (10 + n - 1) 0).toNat ≠ 255
  · rw [if_pos h2] at hN
    refine Br.yes (hq.2 h2) ?_
    conv => whnf
    refine hp.storeW (vs := Rr.cells ⟨0, ⟨#[]⟩⟩) (C := Rr.cells ⟨0, ⟨#[]⟩⟩) rfl (by repeat (first | exact Rm.here | apply Rm.there)) (by rfl) rfl rfl rfl ?_
    clear hp
    intro s hp _
    conv => whnf
    refine hp.loadA (l := Rr.cells ⟨0, ⟨#[]⟩⟩) (by repeat (first | exact Has.here | apply Has.there | (apply Has.swap; repeat (first | exact HasR.here | apply HasR.there)))) rfl (by rfl) rfl rfl ?_
    conv => whnf
    exact ⟨hp.fr, .inl ⟨hN, rfl⟩⟩
  refine Br.no (by cases q with | false => rfl | true => exact absurd (hq.1 rfl) h2) ?_
  conv => whnf
  rw [if_neg h2] at hN
  have h3 : 10 ≤ n ∧ u + 10 + n ≤ b.length := by omega
  clear h2 hq
  -- its bytes
  refine Sm.seqW ?_
  conv => whnf
  obtain ⟨w, f1, hw⟩ := slice_midT (hp.slR .here) .i64 (i := u + 10) (j := u + 10 + n) (by omega) (by omega)
  have e5 : IntKind.i64.wrap ((u : Int) + 10) = ((u + 10 : Nat) : Int) := by rw [wi64 (by omega) (by omega)]; push_cast; rfl
  rw [e3, e5]
  refine Om.of _ (f1) ?_
  conv => whnf
  rw [show u + 10 + n - (u + 10) = n by omega, ← List.drop_drop] at hw
  have hBl : (((b.drop u).drop 10).take n).length = n := by simp; omega
  generalize hB : ((b.drop u).drop 10).take n = B at hN hw hBl
  refine Sm.live [0, 1, 2, 6, 9, 10] ?_
  conv => whnf
  obtain ⟨aw, cw, rfl⟩ := hw.shape
  replace hp := hp.view (a' := slA κ (.slice aw B.length cw) 1 B.length (byteVals B)) .here hw fun j hj => hj
  clear f1 hw
  refine Sm.seqW ?_
  conv => whnf
  refine Sm.seq ?_
  refine Sm.seqW ?_
  conv => whnf
  refine Sm.live [0, 1, 2, 6, 9, 10, 11, 12] ?_
  conv => whnf
  refine Sm.block ?_
  refine Sm.loop ?_
  refine Lp.ofS (α := Nat) (fun i => [(0, .slice a b.length c), (1, .int .i64 (u : Int)), (2, .int .i64 last), (6, .pointer (some ⟨p6, 0, none⟩)), (9, .int .i64 (n : Int)), (10, .slice aw B.length cw), (11, .int .i64 (IntKind.i64.wrap (num8 (B.take i) : Int))), (12, .int .i64 (i : Int))])
    (fun i s' => s' = s ∧ i ≤ 8) (fun i => 8 - i) ?_ 0 (subK_ok (by refine ⟨rfl, rfl, rfl, rfl, rfl, rfl, rfl, rfl, trivial⟩)) ⟨rfl, by omega⟩
  rintro i s' ⟨rfl, hi⟩
  refine Sm.seq ?_
  refine Sm.ofW ?_
  conv => whnf
  refine Br.mk (fun hc => ?_) (fun hc => ?_)
  · have hc : i < 8 := by have := of_decide_eq_true hc; omega
    conv => whnf
    refine Sm.seq ?_
    refine Sm.block ?_
    refine Sm.ofW ?_
    conv => whnf
    refine Om.of _ (rfl) ?_
    conv => whnf
    obtain ⟨q2, i2, j2⟩ := idx8 (hp.slR .here) (i := i) (by omega)
    refine Om.of _ (i2) ?_
    conv => whnf
    refine Om.of _ (j2) ?_
    conv => whnf
    refine Sm.ofW ?_
    conv => whnf
    have e6 : IntKind.i64.wrap ((i : Int) + 1) = ((i + 1 : Nat) : Int) := by rw [wi64 (by omega) (by omega)]; omega
    have e7 := seq_step (num8 (B.take i)) B[i]
    rw [← num8_snoc, ← List.take_succ_eq_append_getElem (by omega)] at e7
    exact ⟨i + 1, by (show 8 - (i + 1) < 8 - i); omega, subK_ok (by refine ⟨rfl, rfl, rfl, rfl, rfl, rfl, congrArg (fun x => some (Value.int .i64 x)) e7, congrArg (fun x => some (Value.int .i64 x)) e6, trivial⟩), rfl, hc⟩
  have hc : i = 8 := by have := of_decide_eq_false hc; omega
  subst hc
  conv => whnf
  have e8 : (B.take 8) = ((b.drop u).drop 10).take 8 := by rw [← hB, List.take_take, Nat.min_eq_left (by omega)]
  rw [e8]
  clear e8
  refine Sm.seqW ?_
  conv => whnf
  have e9 : IntKind.i64.wrap ((n : Int) - 1) = ((n - 1 : Nat) : Int) := by rw [wi64 (by omega) (by omega)]; omega
  rw [e9]
  obtain ⟨w2, f2, hw2⟩ := slice_midT (hp.slR .here) .i64 (i := 8) (j := n - 1) (by omega) (by omega)
  refine Om.of _ (f2) ?_
  conv => whnf
  have e10 : (B.drop 8).take (n - 1 - 8) = ((b.drop u).drop 18).take (n - 9) := by
    rw [← hB, List.drop_take, List.drop_drop, List.take_take]
    congr 1
    omega
  rw [e10] at hw2
  refine hp.call (refReadText_spec hp.wf hw2 (by simp; omega)) ?_
  clear hp f2 hw2
  have e11 : IntKind.i64.wrap ((u : Int) + 2) = ((u + 2 : Nat) : Int) := by rw [wi64 (by omega) (by omega)]; push_cast; rfl
  rintro r s (⟨hT, rfl⟩ | ⟨body, rest, w3, κ3, hT, rfl, hw3⟩) hp k1
  · rw [hT] at hN
    conv => whnf
    refine Sm.live [0, 1, 2, 6, 9, 10, 11, 13, 14, 15] ?_
    conv => whnf
    refine Sm.seq ?_
    obtain ⟨w4, f4, hw4⟩ := slice_midT (hp.slR (κ := κ) (v := .slice a b.length c) (by repeat (first | exact HasR.here | apply HasR.there))) .i64 (i := u + 2) (j := u + 10) (by omega) (by omega)
    rw [show u + 10 - (u + 2) = 8 by omega, ← List.drop_drop] at hw4
    refine Sm.seqC (fun e L' s' => e = .normal ∧ ∃ q, Hp (fun _ => False) z [slA κ (.slice aw B.length cw) 1 B.length (byteVals B), slA κ (.slice a b.length c) 1 b.length (byteVals b)] [blkA p6 p6 (Rr.cells ⟨0, ⟨#[]⟩⟩) 2] s' ∧ Sub [(6, .pointer (some ⟨p6, 0, none⟩)), (9, .int .i64 (n : Int)), (11, .int .i64 (IntKind.i64.wrap (num8 (((b.drop u).drop 10).take 8) : Int))), (13, .string ⟨#[]⟩), (129, .bool q)] L' ∧ q = true) ?_ ?_
    · conv => whnf
      refine ⟨[0, 0, 2, 0, 8, 31, 63, 0, 128, 0, 896, 1920, 3968, 8191, 16383, 32767, 32767, 131071, 262143, 524287, 1048575, 2097151, 4194303, 8388607, 16777215, 33554431, 67108863, 134217727], by decide +kernel, by decide +kernel, ?_⟩
      conv => whnf
      rw [e11, e5]
      refine Om.of _ (f4) ?_
      conv => whnf
      refine Om.of _ (string_sl Try.underlying32 Try.underlying9 Try.underlying5 hw4.reset) ?_
      conv => whnf
      refine hp.dkS ?_
      conv => whnf
      rw [u64_of]
      refine (rsum_spec _ (hp.rst.slR (κ := κ) (v := .slice aw B.length cw) (by repeat (first | exact HasR.here | apply HasR.there))) (by omega) (BitVec.ofInt 64 (u : Int))).mono ?_
      rintro _ _ ⟨rfl, rfl⟩
      conv => whnf
      refine hp.dkS ?_
      conv => whnf
      refine hp.rst.callO (rbytes_spec hp.rst.wf (Mk.sum (BitVec.ofInt 64 (u : Int)) B)) ?_
      intro v5 κ5 s1 h1 k1
      conv => whnf
      refine hp.dkN h1 k1 ?_
      clear hp h1 k1
      intro s hp
      conv => whnf
      refine Om.of _ (string_sl Try.underlying32 Try.underlying9 Try.underlying5 (hp.rst.slF (κ := κ5) (v := v5) .here)) ?_
      conv => whnf
      refine hp.dkS ?_
      conv => whnf
      refine Om.of _ (str_ne _ _) ?_
      conv => whnf
      rw [bs_mk, bs_mk]
      have hr : ((2 : Int) != 0) = true := rfl
      cases hd : (!(((b.drop u).drop 2).take 8 == bytes8 (Mk.sum (BitVec.ofInt 64 (u : Int)) B))) <;> cases hs : decide (IntKind.i64.wrap (num8 (((b.drop u).drop 10).take 8) : Int) ≤ last)
      all_goals
        repeat (first | (refine Br.yes (by first | with_reducible rfl | exact hd | exact hs | exact hr) ?_; conv => whnf) | (refine Br.no (by first | with_reducible rfl | exact hd | exact hs | exact hr) ?_; conv => whnf))
        exact ⟨rfl, true, hp.pik (by repeat (first | exact Pik.nil | exact Pik.refl _ | exact Rm.here | apply Rm.there | apply Pik.cons | apply Pik.skip)), subK_ok ⟨rfl, rfl, rfl, rfl, rfl, trivial⟩, rfl⟩
    clear hp
    rintro e L' s ⟨rfl, q, hp, hsub, rfl⟩
    refine Sm.weak _ hsub ?_
    clear hsub
    refine Sm.ofW ?_
    conv => whnf
    refine Br.yes rfl ?_
    conv => whnf
    refine hp.storeW (vs := Rr.cells ⟨0, ⟨#[]⟩⟩) (C := Rr.cells ⟨0, ⟨#[]⟩⟩) rfl (by repeat (first | exact Rm.here | apply Rm.there)) (by rfl) rfl rfl rfl ?_
    clear hp
    intro s hp _
    conv => whnf
    refine hp.loadA (l := Rr.cells ⟨0, ⟨#[]⟩⟩) (by repeat (first | exact Has.here | apply Has.there | (apply Has.swap; repeat (first | exact HasR.here | apply HasR.there)))) rfl (by rfl) rfl rfl ?_
    conv => whnf
    exact ⟨hp.fr, .inl ⟨hN, rfl⟩⟩
  · rw [hT] at hN
    obtain ⟨a3, c3, rfl⟩ := hw3.shape
    conv => whnf
    refine Sm.live [0, 1, 2, 6, 9, 10, 11, 13, 14, 15] ?_
    conv => whnf
    refine Sm.seq ?_
    obtain ⟨w4, f4, hw4⟩ := slice_midT (hp.slR (κ := κ) (v := .slice a b.length c) (by repeat (first | exact HasR.here | apply HasR.there))) .i64 (i := u + 2) (j := u + 10) (by omega) (by omega)
    rw [show u + 10 - (u + 2) = 8 by omega, ← List.drop_drop] at hw4
    refine Sm.seqC (fun e L' s' => e = .normal ∧ ∃ q, Hp (fun _ => False) z [slA κ (.slice aw B.length cw) 1 B.length (byteVals B), slA κ (.slice a b.length c) 1 b.length (byteVals b)] [blkA p6 p6 (Rr.cells ⟨0, ⟨#[]⟩⟩) 2] s' ∧ Sub [(6, .pointer (some ⟨p6, 0, none⟩)), (9, .int .i64 (n : Int)), (11, .int .i64 (IntKind.i64.wrap (num8 (((b.drop u).drop 10).take 8) : Int))), (13, .string ⟨body.toArray⟩), (129, .bool q)] L' ∧ (q = true ↔ ¬ (rest = [] ∧ ((b.drop u).drop 2).take 8 = bytes8 (Mk.sum (BitVec.ofInt 64 (u : Int)) B) ∧ ¬ IntKind.i64.wrap (num8 (((b.drop u).drop 10).take 8) : Int) ≤ last))) ?_ ?_
    · conv => whnf
      refine ⟨[0, 0, 2, 0, 8, 31, 63, 0, 128, 0, 896, 1920, 3968, 8191, 16383, 32767, 32767, 131071, 262143, 524287, 1048575, 2097151, 4194303, 8388607, 16777215, 33554431, 67108863, 134217727], by decide +kernel, by decide +kernel, ?_⟩
      conv => whnf
      rw [e11, e5]
      refine Om.of _ (f4) ?_
      conv => whnf
      refine Om.of _ (string_sl Try.underlying32 Try.underlying9 Try.underlying5 hw4.reset) ?_
      conv => whnf
      refine hp.dkS ?_
      conv => whnf
      rw [u64_of]
      refine (rsum_spec _ (hp.rst.slR (κ := κ) (v := .slice aw B.length cw) (by repeat (first | exact HasR.here | apply HasR.there))) (by omega) (BitVec.ofInt 64 (u : Int))).mono ?_
      rintro _ _ ⟨rfl, rfl⟩
      conv => whnf
      refine hp.dkS ?_
      conv => whnf
      refine hp.rst.callO (rbytes_spec hp.rst.wf (Mk.sum (BitVec.ofInt 64 (u : Int)) B)) ?_
      intro v5 κ5 s1 h1 k1
      conv => whnf
      refine hp.dkN h1 k1 ?_
      clear hp h1 k1
      intro s hp
      conv => whnf
      refine Om.of _ (string_sl Try.underlying32 Try.underlying9 Try.underlying5 (hp.rst.slF (κ := κ5) (v := v5) .here)) ?_
      conv => whnf
      refine hp.dkS ?_
      conv => whnf
      refine Om.of _ (str_ne _ _) ?_
      conv => whnf
      rw [bs_mk, bs_mk]
      have h0 : ((0 : Int) != 0) = false := rfl
      cases hd : (!(((b.drop u).drop 2).take 8 == bytes8 (Mk.sum (BitVec.ofInt 64 (u : Int)) B))) <;> cases hs : decide (IntKind.i64.wrap (num8 (((b.drop u).drop 10).take 8) : Int) ≤ last)
      · repeat (first | (refine Br.yes (by first | with_reducible rfl | exact hd | exact hs | exact h0) ?_; conv => whnf) | (refine Br.no (by first | with_reducible rfl | exact hd | exact hs | exact h0) ?_; conv => whnf))
        exact ⟨rfl, _, hp.pik (by repeat (first | exact Pik.nil | exact Pik.refl _ | exact Rm.here | apply Rm.there | apply Pik.cons | apply Pik.skip)), subK_ok ⟨rfl, rfl, rfl, rfl, rfl, trivial⟩, nx_rest (nx_hd' hd) (of_decide_eq_false hs)⟩
      · repeat (first | (refine Br.yes (by first | with_reducible rfl | exact hd | exact hs | exact h0) ?_; conv => whnf) | (refine Br.no (by first | with_reducible rfl | exact hd | exact hs | exact h0) ?_; conv => whnf))
        exact ⟨rfl, true, hp.pik (by repeat (first | exact Pik.nil | exact Pik.refl _ | exact Rm.here | apply Rm.there | apply Pik.cons | apply Pik.skip)), subK_ok ⟨rfl, rfl, rfl, rfl, rfl, trivial⟩, iff_of_true rfl fun h => h.2.2 (of_decide_eq_true hs)⟩
      · repeat (first | (refine Br.yes (by first | with_reducible rfl | exact hd | exact hs | exact h0) ?_; conv => whnf) | (refine Br.no (by first | with_reducible rfl | exact hd | exact hs | exact h0) ?_; conv => whnf))
        exact ⟨rfl, true, hp.pik (by repeat (first | exact Pik.nil | exact Pik.refl _ | exact Rm.here | apply Rm.there | apply Pik.cons | apply Pik.skip)), subK_ok ⟨rfl, rfl, rfl, rfl, rfl, trivial⟩, iff_of_true rfl fun h => nx_hd hd h.2.1⟩
      · repeat (first | (refine Br.yes (by first | with_reducible rfl | exact hd | exact hs | exact h0) ?_; conv => whnf) | (refine Br.no (by first | with_reducible rfl | exact hd | exact hs | exact h0) ?_; conv => whnf))
        exact ⟨rfl, true, hp.pik (by repeat (first | exact Pik.nil | exact Pik.refl _ | exact Rm.here | apply Rm.there | apply Pik.cons | apply Pik.skip)), subK_ok ⟨rfl, rfl, rfl, rfl, rfl, trivial⟩, iff_of_true rfl fun h => nx_hd hd h.2.1⟩
    clear hp
    rintro e L' s ⟨rfl, q, hp, hsub, hq⟩
    refine Sm.weak _ hsub ?_
    clear hsub
    refine Sm.ofW ?_
    conv => whnf
    cases q with
    | true =>
      have hq := hq.1 rfl
      have hN2 : nextL b u last = none := by
        rw [hN]
        exact nx_none (x := ⟨IntKind.i64.wrap (num8 (((b.drop u).drop 10).take 8) : Int), ⟨body.toArray⟩⟩) hq
      refine Br.yes rfl ?_
      conv => whnf
      refine hp.storeW (vs := Rr.cells ⟨0, ⟨#[]⟩⟩) (C := Rr.cells ⟨0, ⟨#[]⟩⟩) rfl (by repeat (first | exact Rm.here | apply Rm.there)) (by rfl) rfl rfl rfl ?_
      clear hp
      intro s hp _
      conv => whnf
      refine hp.loadA (l := Rr.cells ⟨0, ⟨#[]⟩⟩) (by repeat (first | exact Has.here | apply Has.there | (apply Has.swap; repeat (first | exact HasR.here | apply HasR.there)))) rfl (by rfl) rfl rfl ?_
      conv => whnf
      exact ⟨hp.fr, .inl ⟨hN2, rfl⟩⟩
    | false =>
      have hq : rest = [] ∧ ((b.drop u).drop 2).take 8 = bytes8 (Mk.sum (BitVec.ofInt 64 (u : Int)) B) ∧ ¬ IntKind.i64.wrap (num8 (((b.drop u).drop 10).take 8) : Int) ≤ last := Decidable.byContradiction fun h => by have := hq.2 h; cases this
      have hN2 : nextL b u last = some (⟨IntKind.i64.wrap (num8 (((b.drop u).drop 10).take 8) : Int), ⟨body.toArray⟩⟩, 10 + n) := by
        rw [hN]
        simp only
        rw [if_pos ⟨hq.1, hq.2.1⟩]
        simp only
        rw [if_neg hq.2.2]
      refine Br.no rfl ?_
      conv => whnf
      refine Sm.seqW ?_
      conv => whnf
      refine hp.storeW (vs := Rr.cells ⟨IntKind.i64.wrap (num8 (((b.drop u).drop 10).take 8) : Int), ⟨body.toArray⟩⟩) (C := Rr.cells ⟨0, ⟨#[]⟩⟩) rfl (by repeat (first | exact Rm.here | apply Rm.there)) (by rfl) rfl rfl rfl ?_
      clear hp
      intro s hp _
      conv => whnf
      have e12 : IntKind.i64.wrap (10 + (n : Int)) = ((10 + n : Nat) : Int) := by rw [wi64 (by omega) (by omega)]; push_cast; rfl
      refine Sm.ofW ?_
      conv => whnf
      refine hp.loadA (l := Rr.cells ⟨IntKind.i64.wrap (num8 (((b.drop u).drop 10).take 8) : Int), ⟨body.toArray⟩⟩) (by repeat (first | exact Has.here | apply Has.there | (apply Has.swap; repeat (first | exact HasR.here | apply HasR.there)))) rfl (by rfl) rfl rfl ?_
      conv => whnf
      refine ⟨hp.fr, .inr ⟨_, _, hN2, ?_⟩⟩
      rw [← e12]
      rfl
end Go.Ev
end

/- Rolls: the document's last one, what is left, a record is appended. No condition. -/
noncomputable section
namespace Go.Ev
open Go.Proofs
set_option linter.unusedVariables false
set_option maxRecDepth 100000

theorem R55 : SlT Try.prog 55 74 2 24 (.agg #[.int .i64 0, .string ⟨#[]⟩]) := ⟨Try.underlying55, ⟨_, rfl, rfl, rfl, rfl⟩, rfl, rfl, by decide, by decide⟩
def drCells (p : Value) (ro : RO) (v : Value) : List Value := [p, .int .i64 ro.at_, .int .i64 ro.size, v, .int .i64 ro.used]
theorem Hp.drec {X : Nat → Prop} {s0 s : St} {R F : List At} {K : Value × St → Prop} (h : Hp X s0 R F s) (r : Rr) (hk : ∀ v b s', Hp X s0 R (ownA b v 2 1 (rrCells [r]) :: F) s' → K0 s s' → K (v, s')) : Om (evBuildSlice Try.prog 55 1 [(0, r.val)] s) K := by
  obtain ⟨k7, b7⟩ := new_kp h.wf r.cells 2
  refine .of (.slice (some ⟨s.next, 0, none⟩) 1 1, s.new r.cells 2) rfl (hk _ _ _ (h.push k7 ⟨_, rfl, b7, rfl⟩ fun j hj => by subst hj; exact Nat.le_refl _) k7)
section
variable {X : Nat → Prop} {s0 s : St} {R F G H : List At} {p v : Value} {kr br : Nat} {κ : Option Nat} {ro : RO}
theorem rlast_spec (hp : Hp X s0 R F s) (m : Has (blkA kr br (drCells p ro v) 5) F R) (hv : Srr s κ v ro.l) (hl : ro.l.length ≤ 100000) :
    Cw Try.prog 40 [.pointer (some ⟨br, 0, none⟩)] s fun r s' => s' = s ∧ r = .int .i64 (lastF ro.l) := by
  obtain ⟨a, c, rfl⟩ := hv.shape
  refine Cw.enterS Try.func40 rfl rfl ?_
  refine Sm.seqW ?_
  conv => whnf
  refine Sm.seq ?_
  refine Sm.seqW ?_
  conv => whnf
  refine hp.load m rfl rfl rfl rfl ?_
  conv => whnf
  refine Sm.ofW ?_
  conv => whnf
  refine Br.mk (fun hq => ?_) (fun hq => ?_)
  · have hq : ro.l.length = 0 := by have := eq_of_beq hq; omega
    conv => whnf
    have : lastF ro.l = 0 := by rw [List.length_eq_zero_iff.1 hq]; rfl
    rw [this]
    exact ⟨rfl, rfl⟩
  · have hq : ro.l.length ≠ 0 := by have := beq_eq_false_iff_ne.1 hq; omega
    conv => whnf
    refine Sm.ofW ?_
    conv => whnf
    refine ⟨[0, 1, 3, 7, 0, 16, 48, 112, 240, 496, 1023, 2047, 4095, 8191], by decide +kernel, by decide +kernel, ?_⟩
    conv => whnf
    refine hp.load m rfl rfl rfl rfl ?_
    conv => whnf
    refine hp.load m rfl rfl rfl rfl ?_
    conv => whnf
    have e1 : IntKind.i64.wrap ((ro.l.length : Int) - 1) = ((ro.l.length - 1 : Nat) : Int) := by rw [wi64 (by omega) (by omega)]; omega
    rw [e1]
    obtain ⟨b, off, C, i1, i2, i3⟩ := fld_at R55 hv .i64 (i := ro.l.length - 1) (by omega)
    refine Om.of _ (i1) ?_
    conv => whnf
    have hlast : C[off + 0]? = some (.int .i64 (lastF ro.l)) := by
      rw [i3 0 (by decide), rr_cell (by omega) (by decide)]
      have : lastF ro.l = (ro.l[ro.l.length - 1]'(by omega)).seq := by
        unfold lastF
        rw [List.getLast?_eq_getElem?, List.getElem?_eq_getElem (by omega)]
      rw [this]; rfl
    refine Om.of _ (load_cell Try.underlying3 rfl rfl i2 hlast) ?_
    conv => whnf
    exact ⟨rfl, rfl⟩
theorem rleft_spec (hp : Hp X s0 R F s) (m : Has (blkA kr br (drCells p ro v) 5) F R) (h1 : ro.size ≤ 65536) (h2 : ro.used ≤ 65536) :
    Cw Try.prog 27 [.pointer (some ⟨br, 0, none⟩)] s fun r s' => s' = s ∧ r = .int .i64 ((ro.size : Int) - ro.used) := by
  refine Cw.enterS Try.func27 rfl rfl ?_
  refine Sm.seqW ?_
  conv => whnf
  refine Sm.ofW ?_
  conv => whnf
  refine ⟨[0, 1, 3, 7, 0, 16, 48, 112, 255, 511], by decide +kernel, by decide +kernel, ?_⟩
  conv => whnf
  refine hp.load m rfl rfl rfl rfl ?_
  conv => whnf
  refine hp.load m rfl rfl rfl rfl ?_
  conv => whnf
  exact ⟨rfl, congrArg (Value.int .i64) (wi64 (by omega) (by omega))⟩
theorem RL.write_len (σ : RL) (a : Int) (l : List UInt8) : (σ.write a l).1.b.length = σ.b.length := by
  unfold RL.write
  split
  · rename_i h
    obtain ⟨h1, h2, h3, h4, h5⟩ := RL.has_iff.1 h
    split
    · simp only; rw [putB_length _ _ _ (by simp; omega)]
    · simp only; rw [putB_length _ _ _ (by omega)]
  · rfl
theorem rappend_spec {ks bs_ kb bb : Nat} {τ : RL} (hp : Hp X s0 R F s) (h1 : Rm (blkA kr br (drCells (.pointer (some ⟨bs_, 0, none⟩)) ro v) 5) F G) (h2 : Rm (onA κ v 2 ro.l.length (rrCells ro.l)) G H) {H1 H2 : List At} (h3 : Rm (blkA ks bs_ (refCells bb τ) 5) H H1) (h4 : Rm (blkA kb bb (byteVals τ.b) 1) H1 H2)
    (hτ : τ.b.length ≤ 65536) (hz : ro.size ≤ 8192) (hu : ro.used ≤ 8192) (ha : ro.at_ ≤ 65536) (hl : ro.l.length ≤ 10000)
    (r : Rr) (hb : (bs r.body).length ≤ 140737488351232) {K : Value → St → Prop}
    (hK : ∀ v' κ' s', Hp X s0 R (blkA kr br (drCells (.pointer (some ⟨bs_, 0, none⟩)) (appR τ ro r).2.2 v') 5 :: onA κ' v' 2 (appR τ ro r).2.2.l.length (rrCells (appR τ ro r).2.2.l) :: blkA ks bs_ (refCells bb (appR τ ro r).2.1) 5 :: blkA kb bb (byteVals (appR τ ro r).2.1.b) 1 :: H2) s' → K (.int .i64 (appR τ ro r).1.n) s') :
    Cw Try.prog 25 [.pointer (some ⟨br, 0, none⟩), .int .i64 r.seq, .string r.body] s K := by
  replace hp : Hp X s0 R (blkA kr br (drCells (.pointer (some ⟨bs_, 0, none⟩)) ro v) 5 :: onA κ v 2 ro.l.length (rrCells ro.l) :: blkA ks bs_ (refCells bb τ) 5 :: blkA kb bb (byteVals τ.b) 1 :: H2) s := hp.pik (.cons h1 (.cons h2 (.cons h3 (.cons h4 (.refl H2)))))
  clear h1 h2 h3 h4
  obtain ⟨av, cv, rfl⟩ := (hp.slF (κ := κ) (v := v) (by repeat (first | exact Rm.here | apply Rm.there))).shape
  refine Cw.enterS Try.func25 rfl rfl ?_
  refine Sm.seqW ?_
  conv => whnf
  refine Sm.seq ?_
  by_cases hc : r.seq ≤ lastF ro.l ∨ 420 < (bs r.body).length
  · have hA : appR τ ro r = (.arg, τ, ro) := by unfold appR; rw [if_pos hc]
    rw [hA] at hK
    refine Sm.seqW ?_
    conv => whnf
    refine (rlast_spec hp (ro := ro) (v := .slice av ro.l.length cv) (by repeat (first | exact Has.here | apply Has.there | (apply Has.swap; repeat (first | exact HasR.here | apply HasR.there)))) (hp.slF (by repeat (first | exact Rm.here | apply Rm.there))) (by omega)).mono ?_
    rintro _ _ ⟨rfl, rfl⟩
    conv => whnf
    by_cases hs : r.seq ≤ lastF ro.l
    · have d1 : decide (r.seq ≤ lastF ro.l) = true := decide_eq_true hs
      repeat (first | (refine Br.yes (by first | with_reducible rfl | exact d1) ?_; conv => whnf))
      refine Sm.ofW ?_
      conv => whnf
      repeat (first | (refine Br.yes (by first | with_reducible rfl | exact d1) ?_; conv => whnf))
      exact ⟨hK _ _ _ hp⟩
    · have d1 : decide (r.seq ≤ lastF ro.l) = false := decide_eq_false hs
      have d2 : decide (((bs r.body).length : Int) > 420) = true := decide_eq_true (by omega)
      repeat (first | (refine Br.no (by first | with_reducible rfl | exact d1) ?_; conv => whnf))
      refine Sm.ofW ?_
      conv => whnf
      repeat (first | (refine Br.yes (by first | with_reducible rfl | exact d2) ?_; conv => whnf))
      exact ⟨hK _ _ _ hp⟩
  have d1 : decide (r.seq ≤ lastF ro.l) = false := decide_eq_false (fun h => hc (.inl h))
  have d2 : decide (((bs r.body).length : Int) > 420) = false := decide_eq_false (fun h => hc (.inr (by omega)))
  have hb2 : (bs r.body).length ≤ 420 := by omega
  have hel := Pk.encI_len (n := ((bs r.body).length : Int)) (by unfold Pk.inR; omega)
  have hlay := layF_len r ro.used
  refine Sm.seqW ?_
  conv => whnf
  refine (rlast_spec hp (ro := ro) (v := .slice av ro.l.length cv) (by repeat (first | exact Has.here | apply Has.there | (apply Has.swap; repeat (first | exact HasR.here | apply HasR.there)))) (hp.slF (by repeat (first | exact Rm.here | apply Rm.there))) (by omega)).mono ?_
  rintro _ _ ⟨rfl, rfl⟩
  conv => whnf
  repeat (first | (refine Br.no (by first | with_reducible rfl | exact d1) ?_; conv => whnf))
  refine Sm.ofW ?_
  conv => whnf
  refine Br.no d2 ?_
  conv => whnf
  refine Sm.live [0, 1, 2] ?_
  conv => whnf
  refine Sm.seqW ?_
  conv => whnf
  (refine hp.load (by repeat (first | exact Has.here | apply Has.there | (apply Has.swap; repeat (first | exact HasR.here | apply HasR.there)))) (by rfl) rfl rfl rfl ?_; conv => whnf)
  refine hp.callO (rframe_spec hp.wf (ro.used : Int) r (by omega)) ?_
  clear hp
  intro v8 κ8 s hp _
  conv => whnf
  obtain ⟨a8, c8, rfl⟩ := (hp.slF .here).shape
  replace hp := hp.iceO (by repeat (first | exact Rm.here | apply Rm.there))
  refine Sm.live [0, 1, 2, 7] ?_
  conv => whnf
  refine Sm.seq ?_
  refine Sm.seqW ?_
  conv => whnf
  refine ⟨[0, 1, 0, 4, 12, 28, 0, 64, 192, 448, 1020, 2047], by decide +kernel, by decide +kernel, ?_⟩
  conv => whnf
  (refine hp.load (by repeat (first | exact Has.here | apply Has.there | (apply Has.swap; repeat (first | exact HasR.here | apply HasR.there)))) (by rfl) rfl rfl rfl ?_; conv => whnf)
  (refine hp.load (by repeat (first | exact Has.here | apply Has.there | (apply Has.swap; repeat (first | exact HasR.here | apply HasR.there)))) (by rfl) rfl rfl rfl ?_; conv => whnf)
  refine Sm.ofW ?_
  conv => whnf
  have ef : IntKind.i64.wrap ((ro.size : Int) - (ro.used : Int)) = (ro.size : Int) - ro.used := wi64 (by omega) (by omega)
  by_cases hf : (ro.size : Int) - ro.used < (layF r ro.used).length
  · have hA : appR τ ro r = (.full, τ, ro) := by unfold appR; rw [if_neg hc, if_pos hf]
    rw [hA] at hK
    refine Br.yes (by rw [ef]; exact decide_eq_true (by omega)) ?_
    conv => whnf
    exact ⟨hK _ _ _ ((hp.pikR (R' := R) (.skip (.refl R))).pik (by repeat (first | exact Pik.nil | exact Pik.refl _ | exact Rm.here | apply Rm.there | apply Pik.cons | apply Pik.skip)))⟩
  refine Br.no (by rw [ef]; exact decide_eq_false (by omega)) ?_
  conv => whnf
  refine Sm.seq ?_
  refine Sm.seqW ?_
  conv => whnf
  refine ⟨[0, 1, 3, 7, 0, 16, 48, 112, 0, 256, 768, 1792, 4080, 0, 16383, 32767], by decide +kernel, by decide +kernel, ?_⟩
  conv => whnf
  (refine hp.load (by repeat (first | exact Has.here | apply Has.there | (apply Has.swap; repeat (first | exact HasR.here | apply HasR.there)))) (by rfl) rfl rfl rfl ?_; conv => whnf)
  (refine hp.load (by repeat (first | exact Has.here | apply Has.there | (apply Has.swap; repeat (first | exact HasR.here | apply HasR.there)))) (by rfl) rfl rfl rfl ?_; conv => whnf)
  (refine hp.load (by repeat (first | exact Has.here | apply Has.there | (apply Has.swap; repeat (first | exact HasR.here | apply HasR.there)))) (by rfl) rfl rfl rfl ?_; conv => whnf)
  have e1 : IntKind.i64.wrap ((ro.at_ : Int) + (ro.used : Int)) = (ro.at_ : Int) + ro.used := wi64 (by omega) (by omega)
  rw [e1]
  refine refWrite_spec hp.rst (σ := τ) (ks := ks) (kb := kb) (by repeat (first | exact Rm.here | apply Rm.there)) (by repeat (first | exact Rm.here | apply Rm.there)) hτ _ (l := layF r ro.used) (.here) ?_
  intro s9 h9
  conv => whnf
  cases hw : (τ.write ((ro.at_ : Int) + ro.used) (layF r ro.used)).2 with
  | false =>
    have hA : appR τ ro r = (.down, (τ.write ((ro.at_ : Int) + ro.used) (layF r ro.used)).1, ro) := by unfold appR; rw [if_neg hc, if_neg hf, if_neg (by rw [hw]; decide)]
    rw [hA] at hK
    refine hp.dkA h9 ?_ ?_
    all_goals
      clear hp h9
      intro s hp
      conv => whnf
      refine Sm.ofW ?_
      conv => whnf
      refine Br.yes rfl ?_
      conv => whnf
      exact ⟨hK _ _ _ ((hp.pikR (R' := R) (.skip (.refl R))).pik (by repeat (first | exact Pik.nil | exact Pik.refl _ | exact Rm.here | apply Rm.there | apply Pik.cons | apply Pik.skip)))⟩
  | true =>
    have hA : appR τ ro r = (.ok, (τ.write ((ro.at_ : Int) + ro.used) (layF r ro.used)).1, { ro with l := ro.l ++ [r], used := ro.used + (layF r ro.used).length }) := by unfold appR; rw [if_neg hc, if_neg hf, if_pos hw]
    rw [hA] at hK
    refine hp.dkA h9 ?_ ?_
    all_goals
      clear hp h9
      intro s hp
      conv => whnf
      refine Sm.ofW ?_
      conv => whnf
      refine Br.no rfl ?_
      conv => whnf
      refine Sm.live [0, 1, 2, 7] ?_
      conv => whnf
      refine Sm.seqW ?_
      conv => whnf
      (refine hp.load (by repeat (first | exact Has.here | apply Has.there | (apply Has.swap; repeat (first | exact HasR.here | apply HasR.there)))) (by rfl) rfl rfl rfl ?_; conv => whnf)
      refine hp.drec r ?_
      clear hp
      intro v7 b9 s hp _
      conv => whnf
      have x7 : Srr s (some b9) v7 [r] := Own.sl (hp.okF _ List.mem_cons_self)
      refine hp.app R55 Try.underlying55 rfl (κ := κ) (v := .slice av ro.l.length cv) (by repeat (first | exact Rm.here | apply Rm.there)) (elems_sl x7) rfl (rrCells_one [r]) (by simp only [List.length_singleton]; omega) ?_
      clear hp x7
      intro v9 κ9 s hp
      rw [← rrCells_append] at hp
      conv => whnf
      obtain ⟨a9, c9, rfl⟩ := (hp.slF (κ := κ9) (v := v9) (by repeat (first | exact Rm.here | apply Rm.there))).shape
      (refine hp.store (by repeat (first | exact Rm.here | apply Rm.there)) (by first | exact of_decide_eq_true rfl | (simp; done) | (simp; omega) | omega) rfl rfl rfl rfl ?_; intro s hp _; conv => whnf)
      refine Sm.live [0, 7] ?_
      conv => whnf
      refine Sm.seqW ?_
      conv => whnf
      (refine hp.load (by repeat (first | exact Has.here | apply Has.there | (apply Has.swap; repeat (first | exact HasR.here | apply HasR.there)))) (by rfl) rfl rfl rfl ?_; conv => whnf)
      (refine hp.store (by repeat (first | exact Rm.here | apply Rm.there)) (by first | exact of_decide_eq_true rfl | (simp; done) | (simp; omega) | omega) rfl rfl rfl rfl ?_; intro s hp _; conv => whnf)
      have e2 : IntKind.i64.wrap ((ro.used : Int) + ((layF r ro.used).length : Int)) = ((ro.used + (layF r ro.used).length : Nat) : Int) := by
        rw [wi64 (by omega) (by omega)]; push_cast; rfl
      rw [e2] at hp
      refine Sm.ofW ?_
      conv => whnf
      have hq : (ro.l ++ [r]).length = ro.l.length + 1 := by simp
      refine ⟨hK (.slice a9 (ro.l.length + 1) c9) κ9 _ ?_⟩
      simp only [hq]
      exact (hp.pikR (R' := R) (.skip (.refl R))).pik (by repeat (first | exact Pik.nil | exact Pik.refl _ | exact Rm.here | apply Rm.there | apply Pik.cons | apply Pik.skip))
end
end Go.Ev
end

/- Rolls: the document's Open. No condition. -/
noncomputable section
namespace Go.Ev
open Go.Proofs
set_option linter.unusedVariables false
set_option maxRecDepth 100000

theorem mid_val {s : St} {b : Nat} (he : blkEsz s b = some 1) (k : IntKind) {i j n : Nat} (hi : i ≤ j) (hj : j ≤ n) :
    evSliceMem Try.prog 32 (.slice (some ⟨b, 0, none⟩) n n) (some (.int k (i : Int))) (some (.int k (j : Int))) none s = some (.slice (some ⟨b, 0 + i * 1, none⟩) (j - i) (n - i)) := by
  obtain ⟨q, hi1, hi2, hi3, hi4⟩ := B26.hi
  have hb : bnds n n (some (.int k (i : Int))) (some (.int k (j : Int))) none = some (i, j, n) := by
    unfold bnds
    simp only [bnd_nat (show j ≤ n by omega), bnd_nat (show i ≤ j by omega)]
  unfold evSliceMem; rw [B26.hu]; simp only [hi1, he, hi2, Nat.beq_refl, hb]
theorem mid_sb {s : St} {kb bb : Nat} {B : List UInt8} (h : Blk s kb bb (byteVals B) 1) {i n : Nat} (hi : i + n ≤ B.length) : Sb s (some kb) (.slice (some ⟨bb, 0 + i * 1, none⟩) n (B.length - i)) ((B.drop i).take n) := by
  refine Sb.of (n := n) ⟨.inr ⟨bb, 0 + i * 1, B.length - i, byteVals B, rfl, by omega, by rw [byteVals_length]; simp; omega, ?_, .inl ⟨kb, rfl, h⟩⟩⟩
  have e : ((byteVals B).drop (0 + i * 1)).take (n * 1) = byteVals ((B.drop i).take n) := by simp [byteVals, List.map_drop, List.map_take]
  unfold Go.Ev.sl
  rw [e]
  have hl : (byteVals ((B.drop i).take n)).length = n * 1 := by rw [byteVals_length]; simp; omega
  simp only [hl, Nat.beq_refl]
theorem any_take_succ {l : List UInt8} {i : Nat} (h : i < l.length) : (l.take (i + 1)).any (fun c => !(c == 0)) = ((l.take i).any (fun c => !(c == 0)) || !(l[i] == 0)) := by
  rw [List.take_succ_eq_append_getElem h, List.any_append]; simp
theorem parseL_next (f : Nat) (B : List UInt8) (u : Nat) (l : List Rr) : parseL (f + 1) B u l = (match nextL B u (lastF l) with
    | none => (l, u)
    | some (x, n) => parseL f B (u + n) (l ++ [x])) := by
  unfold nextL
  conv => lhs; unfold parseL
  cases wholeF (B.drop u) u with
  | none => rfl
  | some p =>
    obtain ⟨x, n⟩ := p
    simp only
    by_cases h : x.seq ≤ lastF l
    · rw [if_pos h, if_pos h]
    · rw [if_neg h, if_neg h]
theorem nextL_n {B : List UInt8} {u : Nat} {last : Int} {x : Rr} {n : Nat} (h : nextL B u last = some (x, n)) : 20 ≤ n ∧ n ≤ B.length - u ∧ last < x.seq := by
  unfold nextL at h
  cases hw : wholeF (B.drop u) u with
  | none => rw [hw] at h; cases h
  | some p =>
    obtain ⟨y, m⟩ := p
    rw [hw] at h
    simp only at h
    by_cases hs : y.seq ≤ last
    · rw [if_pos hs] at h; cases h
    · rw [if_neg hs] at h
      injection h with h
      injection h with h1 h2
      subst h1 h2
      have := wholeF_n hw
      simp at this
      omega
section
variable {X : Nat → Prop} {s0 s : St} {R F G H : List At} {ks bs_ kb bb : Nat} {τ : RL}
theorem ropen_spec (hp : Hp X s0 R F s) (h1 : Rm (blkA ks bs_ (refCells bb τ) 5) F G) (h2 : Rm (blkA kb bb (byteVals τ.b) 1) G H) (hlen : τ.b.length ≤ 65536) (at_ size : Int) (ha : inR at_) (hs : inR size)
    {K : Value → St → Prop} (hArg : (openR τ at_ size).1 = .arg → ∀ s', Hp X s0 R (blkA ks bs_ (refCells bb τ) 5 :: blkA kb bb (byteVals τ.b) 1 :: H) s' → K (.tuple #[.pointer none, .int .i64 1]) s')
    (hDown : (openR τ at_ size).1 = .down → ∀ s', Hp X s0 R (blkA ks bs_ (refCells bb (openR τ at_ size).2) 5 :: blkA kb bb (byteVals (openR τ at_ size).2.b) 1 :: H) s' → K (.tuple #[.pointer none, .int .i64 6]) s')
    (hOk : ∀ ro, (openR τ at_ size).1 = .ok ro → ∀ kr br κ v s', Hp X s0 R (blkA kr br (drCells (.pointer (some ⟨bs_, 0, none⟩)) ro v) 5 :: onA κ v 2 ro.l.length (rrCells ro.l) :: blkA ks bs_ (refCells bb (openR τ at_ size).2) 5 :: blkA kb bb (byteVals (openR τ at_ size).2.b) 1 :: H) s' → K (.tuple #[.pointer (some ⟨br, 0, none⟩), .int .i64 0]) s') :
    Cw Try.prog 22 [.pointer (some ⟨bs_, 0, none⟩), .int .i64 at_, .int .i64 size] s K := by
  replace hp : Hp X s0 R (blkA ks bs_ (refCells bb τ) 5 :: blkA kb bb (byteVals τ.b) 1 :: H) s := hp.pik (.cons h1 (.cons h2 (.refl H)))
  clear h1 h2
  obtain ⟨ha1, ha2⟩ := ha
  obtain ⟨hs1, hs2⟩ := hs
  refine Cw.enterS Try.func22 rfl rfl ?_
  refine Sm.seqW ?_
  conv => whnf
  refine Sm.seq ?_
  refine Sm.seqC (fun e L' s' => e = .normal ∧ s' = s ∧ ∃ q, Sub [(0, .pointer (some ⟨bs_, 0, none⟩)), (1, .int .i64 at_), (2, .int .i64 size), (50, .bool q)] L' ∧ (q = true ↔ (size < 32 ∨ 8192 < size ∨ at_ < 0 ∨ (τ.b.length : Int) < at_ ∨ (τ.b.length : Int) - at_ < size))) ?_ ?_
  · conv => whnf
    refine Om.of (.bool false) rfl ?_
    conv => whnf
    repeat (refine Br.no rfl ?_; conv => whnf)
    by_cases c1 : size < 32
    · have d1 : decide (size < 32) = true := decide_eq_true c1
      repeat (first | (refine Br.yes (by first | with_reducible rfl | exact d1) ?_; conv => whnf) | (refine Br.no (by with_reducible rfl) ?_; conv => whnf))
      exact ⟨rfl, rfl, true, subK_ok ⟨rfl, rfl, rfl, rfl, trivial⟩, by simp [c1]⟩
    have d1 : decide (size < 32) = false := decide_eq_false c1
    by_cases c2 : 8192 < size
    · have d2 : decide (size > 8192) = true := decide_eq_true c2
      repeat (first | (refine Br.yes (by first | with_reducible rfl | exact d2) ?_; conv => whnf) | (refine Br.no (by first | with_reducible rfl | exact d1) ?_; conv => whnf))
      exact ⟨rfl, rfl, true, subK_ok ⟨rfl, rfl, rfl, rfl, trivial⟩, by simp [c2]⟩
    have d2 : decide (size > 8192) = false := decide_eq_false c2
    by_cases c3 : at_ < 0
    · have d3 : decide (at_ < 0) = true := decide_eq_true c3
      repeat (first | (refine Br.yes (by first | with_reducible rfl | exact d3) ?_; conv => whnf) | (refine Br.no (by first | with_reducible rfl | exact d1 | exact d2) ?_; conv => whnf))
      exact ⟨rfl, rfl, true, subK_ok ⟨rfl, rfl, rfl, rfl, trivial⟩, by simp [c3]⟩
    have d3 : decide (at_ < 0) = false := decide_eq_false c3
    repeat (first | (refine Br.no (by first | with_reducible rfl | exact d1 | exact d2 | exact d3) ?_; conv => whnf))
    (refine hp.load (by repeat (first | exact Has.here | apply Has.there | (apply Has.swap; repeat (first | exact HasR.here | apply HasR.there)))) (by rfl) rfl rfl rfl ?_; conv => whnf)
    by_cases c4 : (τ.b.length : Int) < at_
    · have d4 : decide (at_ > (τ.b.length : Int)) = true := decide_eq_true c4
      repeat (first | (refine Br.yes (by first | with_reducible rfl | exact d4) ?_; conv => whnf) | (refine Br.no (by first | with_reducible rfl | exact d1 | exact d2 | exact d3) ?_; conv => whnf))
      exact ⟨rfl, rfl, true, subK_ok ⟨rfl, rfl, rfl, rfl, trivial⟩, by simp [c4]⟩
    have d4 : decide (at_ > (τ.b.length : Int)) = false := decide_eq_false c4
    repeat (first | (refine Br.no (by first | with_reducible rfl | exact d1 | exact d2 | exact d3 | exact d4) ?_; conv => whnf))
    (refine hp.load (by repeat (first | exact Has.here | apply Has.there | (apply Has.swap; repeat (first | exact HasR.here | apply HasR.there)))) (by rfl) rfl rfl rfl ?_; conv => whnf)
    repeat (first | (refine Br.no (by first | with_reducible rfl | exact d1 | exact d2 | exact d3 | exact d4) ?_; conv => whnf))
    refine ⟨rfl, rfl, _, subK_ok ⟨rfl, rfl, rfl, rfl, trivial⟩, ?_⟩
    rw [wi64 (by omega) (by omega), decide_eq_true_eq]
    simp [c1, c2, c3, c4]
  rintro e L' s ⟨rfl, rfl, q, hsub, hq⟩
  refine Sm.weak _ hsub ?_
  clear hsub
  refine Sm.ofW ?_
  conv => whnf
  cases q with
  | true =>
    refine Br.yes rfl ?_
    conv => whnf
    exact ⟨hArg (by unfold openR; rw [if_pos (hq.1 rfl)]) _ hp⟩
  | false =>
    have hc : ¬ (size < 32 ∨ 8192 < size ∨ at_ < 0 ∨ (τ.b.length : Int) < at_ ∨ (τ.b.length : Int) - at_ < size) := fun h => by have := hq.2 h; cases this
    clear hArg hq
    refine Br.no rfl ?_
    conv => whnf
    refine Sm.live [0, 1, 2] ?_
    conv => whnf
    refine Sm.seq ?_
    refine Sm.seqW ?_
    conv => whnf
    (refine hp.load (by repeat (first | exact Has.here | apply Has.there | (apply Has.swap; repeat (first | exact HasR.here | apply HasR.there)))) (by rfl) rfl rfl rfl ?_; conv => whnf)
    refine Sm.ofW ?_
    conv => whnf
    cases hd : τ.dead with
    | true =>
      have hO : openR τ at_ size = (.down, τ) := by unfold openR; rw [if_neg hc, if_pos hd]
      rw [hO] at hDown
      refine Br.yes rfl ?_
      conv => whnf
      exact ⟨hDown rfl _ hp⟩
    | false =>
      obtain ⟨A, rfl⟩ : ∃ A : Nat, at_ = (A : Int) := ⟨at_.toNat, by omega⟩
      obtain ⟨Z, rfl⟩ : ∃ Z : Nat, size = (Z : Int) := ⟨size.toNat, by omega⟩
      refine Br.no rfl ?_
      conv => whnf
      refine Sm.seqW ?_
      conv => whnf
      refine hp.var (cs := [.pointer (some ⟨bs_, 0, none⟩), .int .i64 (A : Int), .int .i64 (Z : Int), .slice none 0 0, .int .i64 0]) (e := 5) rfl rfl ?_
      clear hp
      intro br s hp _
      conv => whnf
      refine Sm.live [0, 1, 2, 8] ?_
      conv => whnf
      refine Sm.seqW ?_
      conv => whnf
      (refine hp.load (by repeat (first | exact Has.here | apply Has.there | (apply Has.swap; repeat (first | exact HasR.here | apply HasR.there)))) (by rfl) rfl rfl rfl ?_; conv => whnf)
      have e1 : IntKind.i64.wrap ((A : Int) + (Z : Int)) = ((A + Z : Nat) : Int) := by rw [wi64 (by omega) (by omega)]; push_cast; rfl
      rw [e1]
      refine Om.of _ (mid_val (Blk.esz (hp.blk (by repeat (first | exact Has.here | apply Has.there | (apply Has.swap; repeat (first | exact HasR.here | apply HasR.there)))) : Blk s kb bb (byteVals τ.b) 1)) .i64 (by omega) (by omega)) ?_
      conv => whnf
      rw [show A + Z - A = Z by omega]
      refine Sm.live [0, 1, 2, 8, 9] ?_
      conv => whnf
      refine Sm.seqW ?_
      conv => whnf
      refine Sm.live [0, 1, 2, 8, 9, 10] ?_
      conv => whnf
      have hO : openR τ (A : Int) (Z : Int) = (match (if (((τ.b.drop A).take Z).drop (parseF ((τ.b.drop A).take Z)).2).any (fun c => !(c == 0)) = true
          then zeroLR (Z - (parseF ((τ.b.drop A).take Z)).2 + 1) τ A (parseF ((τ.b.drop A).take Z)).2 Z else (τ, true)) with
        | (τ', ok) => if ok = true then (.ok ⟨A, Z, (parseF ((τ.b.drop A).take Z)).2, (parseF ((τ.b.drop A).take Z)).1⟩, τ') else (.down, τ')) := by
        unfold openR
        rw [if_neg hc, if_neg (by rw [hd]; decide)]
        rfl
      have hbl : ((τ.b.drop A).take Z).length = Z := by simp; omega
      have hmid : ∀ {s : St}, Blk s kb bb (byteVals τ.b) 1 → Sb s (some kb) (.slice (some ⟨bb, 0 + A * 1, none⟩) Z (τ.b.length - A)) ((τ.b.drop A).take Z) := fun h => mid_sb h (by omega)
      generalize hB : (τ.b.drop A).take Z = B at hO hbl hmid
      have hp0 : Hp X s0 R (blkA br br (drCells (.pointer (some ⟨bs_, 0, none⟩)) ⟨A, Z, 0, []⟩ (.slice none 0 0)) 5 :: onA none (.slice none 0 0) 2 0 (rrCells []) :: blkA ks bs_ (refCells bb τ) 5 :: blkA kb bb (byteVals τ.b) 1 :: H) s :=
        (hp.push (a := onA none (.slice none 0 0) 2 0 (rrCells [])) (.refl hp.wf) ⟨.inl ⟨rfl, rfl, rfl, rfl⟩⟩ fun j hj => by cases hj).pik (by repeat (first | exact Pik.nil | exact Pik.refl _ | exact Rm.here | apply Rm.there | apply Pik.cons | apply Pik.skip))
      clear hp
      refine Sm.seq ?_
      refine Sm.block ?_
      refine Sm.loop ?_
      refine Lp.ofS (α := Nat × List Rr × Option Nat × Value × Nat) (fun x => [(0, .pointer (some ⟨bs_, 0, none⟩)), (1, .int .i64 (A : Int)), (2, .int .i64 (Z : Int)), (8, .pointer (some ⟨br, 0, none⟩)), (9, .slice (some ⟨bb, 0 + A * 1, none⟩) Z (τ.b.length - A)), (10, .int .i64 (lastF x.2.1))])
        (fun x s' => x.1 ≤ B.length ∧ B.length < x.2.2.2.2 + x.1 ∧ x.2.1.length * 20 ≤ x.1 ∧ Hp X s0 R (blkA br br (drCells (.pointer (some ⟨bs_, 0, none⟩)) ⟨A, Z, x.1, x.2.1⟩ x.2.2.2.1) 5 :: onA x.2.2.1 x.2.2.2.1 2 x.2.1.length (rrCells x.2.1) :: blkA ks bs_ (refCells bb τ) 5 :: blkA kb bb (byteVals τ.b) 1 :: H) s' ∧
          parseF B = parseL x.2.2.2.2 B x.1 x.2.1) (fun x => B.length - x.1) ?_ (0, [], none, .slice none 0 0, B.length + 1) (subK_ok (by refine ⟨rfl, rfl, rfl, rfl, rfl, rfl, trivial⟩)) ⟨Nat.zero_le _, by simp only; omega, by simp, hp0, rfl⟩
      clear hp0
      rintro ⟨u, l, κl, vl, f⟩ s ⟨hu, hf, hlu, hp, hpf⟩
      simp only at hu hf hlu hp hpf
      obtain ⟨al, cl, rfl⟩ := (hp.slF (κ := κl) (by repeat (first | exact Rm.here | apply Rm.there))).shape
      obtain ⟨f, rfl⟩ : ∃ g, f = g + 1 := ⟨f - 1, by omega⟩
      have hun := parseL_next f B u l
      refine Sm.block ?_
      refine Sm.seqC (fun e L' s' => e = .normal ∧ ∃ (x : Rr) (n : Nat) (is : Bool) (b1 : Nat), Hp X s0 R (blkA b1 b1 (Rr.cells x) 2 :: blkA br br (drCells (.pointer (some ⟨bs_, 0, none⟩)) ⟨A, Z, u, l⟩ (.slice al l.length cl)) 5 :: onA κl (.slice al l.length cl) 2 l.length (rrCells l) :: blkA ks bs_ (refCells bb τ) 5 :: blkA kb bb (byteVals τ.b) 1 :: H) s' ∧
        Sub [(0, .pointer (some ⟨bs_, 0, none⟩)), (1, .int .i64 (A : Int)), (2, .int .i64 (Z : Int)), (8, .pointer (some ⟨br, 0, none⟩)), (9, .slice (some ⟨bb, 0 + A * 1, none⟩) Z (τ.b.length - A)), (11, .pointer (some ⟨b1, 0, none⟩)), (12, .int .i64 (n : Int)), (13, .bool is)] L' ∧ ((is = false ∧ nextL B u (lastF l) = none) ∨ (is = true ∧ nextL B u (lastF l) = some (x, n)))) ?_ ?_
      · conv => whnf
        (refine hp.load (by repeat (first | exact Has.here | apply Has.there | (apply Has.swap; repeat (first | exact HasR.here | apply HasR.there)))) (by rfl) rfl rfl rfl ?_; conv => whnf)
        refine hp.call (rnext_spec hp.wf (hmid (hp.blk (by repeat (first | exact Has.here | apply Has.there | (apply Has.swap; repeat (first | exact HasR.here | apply HasR.there)))))) (by omega) hu (lastF l)) ?_
        clear hp
        rintro r s (⟨hN, rfl⟩ | ⟨x, n, hN, rfl⟩) hp _
        · conv => whnf
          refine hp.alloc (cs := Rr.cells ⟨0, ⟨#[]⟩⟩) (e := 2) rfl rfl rfl rfl rfl ?_
          clear hp
          intro p11 s hp _
          conv => whnf
          refine hp.storeW (vs := Rr.cells ⟨0, ⟨#[]⟩⟩) rfl (by repeat (first | exact Rm.here | apply Rm.there)) (by rfl) rfl rfl rfl ?_
          clear hp
          intro s hp _
          conv => whnf
          exact ⟨rfl, _, 0, false, p11, hp.pik (by repeat (first | exact Pik.nil | exact Pik.refl _ | exact Rm.here | apply Rm.there | apply Pik.cons | apply Pik.skip)), subK_ok ⟨rfl, rfl, rfl, rfl, rfl, rfl, rfl, rfl, trivial⟩, .inl ⟨rfl, hN⟩⟩
        · conv => whnf
          refine hp.alloc (cs := Rr.cells ⟨0, ⟨#[]⟩⟩) (e := 2) rfl rfl rfl rfl rfl ?_
          clear hp
          intro p11 s hp _
          conv => whnf
          refine hp.storeW (vs := x.cells) (C := Rr.cells ⟨0, ⟨#[]⟩⟩) rfl (by repeat (first | exact Rm.here | apply Rm.there)) (by rfl) rfl rfl rfl ?_
          clear hp
          intro s hp _
          conv => whnf
          exact ⟨rfl, x, n, true, p11, hp.pik (by repeat (first | exact Pik.nil | exact Pik.refl _ | exact Rm.here | apply Rm.there | apply Pik.cons | apply Pik.skip)), subK_ok ⟨rfl, rfl, rfl, rfl, rfl, rfl, rfl, rfl, trivial⟩, .inr ⟨rfl, hN⟩⟩
      clear hp
      rintro e L' s ⟨rfl, x, n, is, p11, hp, hsub, hwh⟩
      refine Sm.weak _ hsub ?_
      clear hsub
      refine Sm.seq ?_
      refine Sm.seqW ?_
      conv => whnf
      refine Sm.ofW ?_
      conv => whnf
      rcases hwh with ⟨rfl, hN⟩ | ⟨rfl, hN⟩
      rotate_left
      · -- one more
        have hn := nextL_n hN
        rw [hN] at hun
        simp only at hun
        refine Br.no rfl ?_
        conv => whnf
        refine Sm.live [0, 1, 2, 8, 9, 11, 12] ?_
        conv => whnf
        refine Sm.seqW ?_
        conv => whnf
        refine ⟨[0, 0, 2, 6, 14, 0, 32, 126, 255, 511, 1023], by decide +kernel, by decide +kernel, ?_⟩
        conv => whnf
        (refine hp.load (by repeat (first | exact Has.here | apply Has.there | (apply Has.swap; repeat (first | exact HasR.here | apply HasR.there)))) (by rfl) rfl rfl rfl ?_; conv => whnf)
        refine hp.loadA (l := x.cells) (by repeat (first | exact Has.here | apply Has.there | (apply Has.swap; repeat (first | exact HasR.here | apply HasR.there)))) rfl (by rfl) rfl rfl ?_
        conv => whnf
        refine hp.rst.drec x ?_
        intro v7 b9 s7 h7 k7
        conv => whnf
        refine hp.dkN h7 k7 ?_
        clear hp h7 k7
        intro s7 hp
        conv => whnf
        have x7 : Srr (reset s7) (some b9) v7 [x] := Own.sl (hp.rst.okF _ List.mem_cons_self)
        refine hp.rst.app R55 Try.underlying55 rfl (κ := κl) (v := .slice al l.length cl) (by repeat (first | exact Rm.here | apply Rm.there)) (elems_sl x7) rfl (rrCells_one [x]) (by simp only [List.length_singleton]; omega) ?_
        intro v9 κ9 s9 h9
        rw [← rrCells_append] at h9
        conv => whnf
        obtain ⟨a9, c9, rfl⟩ := (h9.slF (κ := κ9) (v := v9) (by repeat (first | exact Rm.here | apply Rm.there))).shape
        refine hp.dkA h9 ?_ ?_
        all_goals
          clear hp h9 x7
          intro s hp
          conv => whnf
          (refine hp.rst.store (by repeat (first | exact Rm.here | apply Rm.there)) (by first | exact of_decide_eq_true rfl | (simp; done) | (simp; omega) | omega) rfl rfl rfl rfl ?_; intro s1 h1 l1; (conv => whnf); refine hp.dkW h1 l1 ?_; clear h1 l1; intro s hp; conv => whnf)
          refine Sm.live [0, 1, 2, 8, 9, 11, 12] ?_
          conv => whnf
          refine Sm.seqW ?_
          conv => whnf
          (refine hp.load (by repeat (first | exact Has.here | apply Has.there | (apply Has.swap; repeat (first | exact HasR.here | apply HasR.there)))) (by rfl) rfl rfl rfl ?_; conv => whnf)
          (refine hp.store (by repeat (first | exact Rm.here | apply Rm.there)) (by first | exact of_decide_eq_true rfl | (simp; done) | (simp; omega) | omega) rfl rfl rfl rfl ?_; intro s hp _; conv => whnf)
          have e2 : IntKind.i64.wrap ((u : Int) + (n : Int)) = ((u + n : Nat) : Int) := by
            rw [wi64 (by omega) (by omega)]; push_cast; rfl
          rw [e2] at hp
          refine Sm.live [0, 1, 2, 8, 9, 11] ?_
          conv => whnf
          refine Sm.ofW ?_
          conv => whnf
          (refine hp.load (by repeat (first | exact Has.here | apply Has.there | (apply Has.swap; repeat (first | exact HasR.here | apply HasR.there)))) (by rfl) rfl rfl rfl ?_; conv => whnf)
          have hq : (l ++ [x]).length = l.length + 1 := by simp
          have hls : lastF (l ++ [x]) = x.seq := lastF_snoc l x
          refine ⟨(u + n, l ++ [x], κ9, .slice a9 (l.length + 1) c9, f), by (show B.length - (u + n) < B.length - u); omega, subK_ok (by refine ⟨rfl, rfl, rfl, rfl, rfl, congrArg (fun x => some (Value.int .i64 x)) hls.symm, trivial⟩), by (show u + n ≤ B.length); omega, by (show B.length < f + (u + n)); omega, by (show (l ++ [x]).length * 20 ≤ u + n); omega, ?_, hpf.trans hun⟩
          simp only [hq]
          exact hp.pik (by repeat (first | exact Pik.nil | exact Pik.refl _ | exact Rm.here | apply Rm.there | apply Pik.cons | apply Pik.skip))
      -- no more of them
      rw [hN] at hun
      simp only at hun
      rw [hun] at hpf
      rw [hpf] at hO
      simp only at hO
      refine Br.yes rfl ?_
      conv => whnf
      refine Sm.seqW ?_
      conv => whnf
      refine Sm.live [0, 1, 2, 8, 9, 14] ?_
      conv => whnf
      replace hp := hp.pik (G := (blkA br br (drCells (.pointer (some ⟨bs_, 0, none⟩)) ⟨A, Z, u, l⟩ (.slice al l.length cl)) 5 :: onA κl (.slice al l.length cl) 2 l.length (rrCells l) :: blkA ks bs_ (refCells bb τ) 5 :: blkA kb bb (byteVals τ.b) 1 :: H)) (by repeat (first | exact Pik.nil | exact Pik.refl _ | exact Rm.here | apply Rm.there | apply Pik.cons | apply Pik.skip))
      refine Sm.seq ?_
      refine Sm.seqW ?_
      conv => whnf
      (refine hp.load (by repeat (first | exact Has.here | apply Has.there | (apply Has.swap; repeat (first | exact HasR.here | apply HasR.there)))) (by rfl) rfl rfl rfl ?_; conv => whnf)
      refine Sm.live [0, 1, 2, 8, 9, 14, 15] ?_
      conv => whnf
      refine Sm.block ?_
      refine Sm.loop ?_
      refine Lp.ofS (α := Nat) (fun k => [(0, .pointer (some ⟨bs_, 0, none⟩)), (1, .int .i64 (A : Int)), (2, .int .i64 (Z : Int)), (8, .pointer (some ⟨br, 0, none⟩)), (9, .slice (some ⟨bb, 0 + A * 1, none⟩) Z (τ.b.length - A)), (14, .bool (!((B.drop u).take k).any (fun c => !(c == 0)))), (15, .int .i64 ((u + k : Nat) : Int))])
        (fun k s' => s' = s ∧ u + k ≤ Z) (fun k => Z - (u + k)) ?_ 0 (subK_ok (by refine ⟨rfl, rfl, rfl, rfl, rfl, rfl, rfl, trivial⟩)) ⟨rfl, by omega⟩
      rintro k s' ⟨rfl, hk⟩
      have hBu : (B.drop u).length = Z - u := by rw [List.length_drop, hbl]
      refine Sm.seq ?_
      refine Sm.ofW ?_
      conv => whnf
      refine Br.mk (fun hc => ?_) (fun hc => ?_)
      · have hc : u + k < Z := by have := of_decide_eq_true hc; omega
        conv => whnf
        refine Sm.seq ?_
        refine Sm.block ?_
        refine Sm.ofW ?_
        conv => whnf
        have hsu := any_take_succ (l := B.drop u) (i := k) (by omega)
        have hge : (B.drop u)[k]'(by omega) = B[u + k]'(by omega) := by rw [List.getElem_drop]
        rw [hge] at hsu
        have e6 : IntKind.i64.wrap (((u + k : Nat) : Int) + 1) = ((u + (k + 1) : Nat) : Int) := by rw [wi64 (by omega) (by omega)]; push_cast; omega
        cases hb : ((B.drop u).take k).any (fun c => !(c == 0)) with
        | false =>
          rw [hb, Bool.false_or] at hsu
          obtain ⟨q2, i2, j2⟩ := idx8 (hmid (hp.blk (by repeat (first | exact Has.here | apply Has.there | (apply Has.swap; repeat (first | exact HasR.here | apply HasR.there)))))) (i := u + k) (by omega)
          repeat (first | (refine Br.yes rfl ?_; conv => whnf))
          refine Om.of _ (i2) ?_
          conv => whnf
          repeat (first | (refine Br.yes rfl ?_; conv => whnf))
          refine Om.of _ (j2) ?_
          conv => whnf
          repeat (first | (refine Br.yes rfl ?_; conv => whnf))
          refine Sm.ofW ?_
          conv => whnf
          have e7 : (((B[u + k]'(by omega)).toNat : Int) == 0) = !((B.drop u).take (k + 1)).any (fun c => !(c == 0)) := by
            rw [hsu, Bool.not_not]
            by_cases h0 : B[u + k]'(by omega) = 0
            · rw [h0]; rfl
            · have h2 : (B[u + k]'(by omega)).toNat ≠ 0 := fun e => h0 (UInt8.toNat_inj.1 e)
              rw [beq_eq_false_iff_ne.2 h0]
              exact beq_eq_false_iff_ne.2 (by omega)
          exact ⟨k + 1, by (show Z - (u + (k + 1)) < Z - (u + k)); omega, subK_ok (by refine ⟨rfl, rfl, rfl, rfl, rfl, congrArg (fun x => some (Value.bool x)) e7, congrArg (fun x => some (Value.int .i64 x)) e6, trivial⟩), rfl, by omega⟩
        | true =>
          rw [hb, Bool.true_or] at hsu
          repeat (first | (refine Br.no rfl ?_; conv => whnf))
          refine Sm.ofW ?_
          conv => whnf
          have e7 : false = !((B.drop u).take (k + 1)).any (fun c => !(c == 0)) := by rw [hsu]; rfl
          exact ⟨k + 1, by (show Z - (u + (k + 1)) < Z - (u + k)); omega, subK_ok (by refine ⟨rfl, rfl, rfl, rfl, rfl, congrArg (fun x => some (Value.bool x)) e7, congrArg (fun x => some (Value.int .i64 x)) e6, trivial⟩), rfl, by omega⟩
      have hc : u + k = Z := by have := of_decide_eq_false hc; omega
      rw [List.take_of_length_le (by omega)]
      conv => whnf
      -- the zeros
      refine Sm.seq ?_
      refine Sm.seqW ?_
      conv => whnf
      (refine hp.load (by repeat (first | exact Has.here | apply Has.there | (apply Has.swap; repeat (first | exact HasR.here | apply HasR.there)))) (by rfl) rfl rfl rfl ?_; conv => whnf)
      refine Sm.live [0, 1, 2, 8, 14, 16] ?_
      conv => whnf
      refine Sm.block ?_
      refine Sm.loop ?_
      cases hany : (B.drop u).any (fun c => !(c == 0)) with
      | false =>
        simp only [hany, Bool.false_eq_true, if_false, if_true] at hO
        rw [hO] at hOk
        refine Lp.ofS (α := Unit) (fun _ => [(8, .pointer (some ⟨br, 0, none⟩)), (0, .pointer (some ⟨bs_, 0, none⟩)), (1, .int .i64 (A : Int)), (2, .int .i64 (Z : Int)), (14, .bool true), (16, .int .i64 (u : Int))])
          (fun _ s2 => s2 = s') (fun _ => 0) ?_ () (subK_ok (by refine ⟨rfl, rfl, rfl, rfl, rfl, rfl, trivial⟩)) rfl
        rintro _ s2 rfl
        refine Sm.seq ?_
        refine Sm.seqC (fun e L' s3 => e = .normal ∧ s3 = s2 ∧ Sub [(8, .pointer (some ⟨br, 0, none⟩)), (130, .bool false)] L') ?_ ?_
        · conv => whnf
          cases hlt : decide ((u : Int) < (Z : Int)) with
          | true =>
            repeat (first | (refine Br.yes (by first | with_reducible rfl | exact hlt) ?_; conv => whnf))
            exact ⟨rfl, rfl, subK_ok ⟨rfl, rfl, trivial⟩⟩
          | false =>
            repeat (first | (refine Br.no (by first | with_reducible rfl | exact hlt) ?_; conv => whnf))
            exact ⟨rfl, rfl, subK_ok ⟨rfl, rfl, trivial⟩⟩
        rintro e L' s ⟨rfl, rfl, hsub⟩
        refine Sm.weak _ hsub ?_
        clear hsub
        refine Sm.ofW ?_
        conv => whnf
        refine Br.no rfl ?_
        conv => whnf
        refine Sm.seqW ?_
        conv => whnf
        refine Sm.ofW ?_
        conv => whnf
        exact ⟨hOk _ rfl br br κl (.slice al l.length cl) _ (hp.pik (by repeat (first | exact Pik.nil | exact Pik.refl _ | exact Rm.here | apply Rm.there | apply Pik.cons | apply Pik.skip)))⟩
      | true =>
        rw [hany, if_pos rfl] at hO
        refine Lp.ofS (α := Nat × RL × Nat) (fun x => [(0, .pointer (some ⟨bs_, 0, none⟩)), (1, .int .i64 (A : Int)), (2, .int .i64 (Z : Int)), (8, .pointer (some ⟨br, 0, none⟩)), (14, .bool false), (16, .int .i64 (x.1 : Int))])
          (fun x s' => x.1 ≤ Z + 32 ∧ Z < x.2.2 * 32 + x.1 ∧ x.2.1.b.length ≤ 65536 ∧ Hp X s0 R (blkA br br (drCells (.pointer (some ⟨bs_, 0, none⟩)) ⟨A, Z, u, l⟩ (.slice al l.length cl)) 5 :: onA κl (.slice al l.length cl) 2 l.length (rrCells l) :: blkA ks bs_ (refCells bb x.2.1) 5 :: blkA kb bb (byteVals x.2.1.b) 1 :: H) s' ∧ zeroLR (Z - u + 1) τ A u Z = zeroLR x.2.2 x.2.1 A x.1 Z)
          (fun x => Z + 32 - x.1) ?_ (u, τ, Z - u + 1) (subK_ok (by refine ⟨rfl, rfl, rfl, rfl, rfl, rfl, trivial⟩)) ⟨by simp only; omega, by simp only; omega, hlen, hp, rfl⟩
        clear hp
        rintro ⟨i, τi, f⟩ s ⟨hi, hf, hli, hp, he⟩
        simp only at hi hf hli hp he
        rw [he] at hO
        refine Sm.seq ?_
        by_cases hci : i < Z
        · have hlt : decide ((i : Int) < (Z : Int)) = true := decide_eq_true (by omega)
          refine Sm.seqC (fun e L' s3 => e = .normal ∧ s3 = s ∧ Sub [(0, .pointer (some ⟨bs_, 0, none⟩)), (1, .int .i64 (A : Int)), (2, .int .i64 (Z : Int)), (8, .pointer (some ⟨br, 0, none⟩)), (14, .bool false), (16, .int .i64 (i : Int)), (130, .bool true)] L') ?_ ?_
          · conv => whnf
            repeat (first | (refine Br.yes (by first | with_reducible rfl | exact hlt) ?_; conv => whnf))
            exact ⟨rfl, rfl, subK_ok ⟨rfl, rfl, rfl, rfl, rfl, rfl, rfl, trivial⟩⟩
          rintro e L' s ⟨rfl, rfl, hsub⟩
          refine Sm.weak _ hsub ?_
          clear hsub
          obtain ⟨f, rfl⟩ : ∃ g, f = g + 1 := ⟨f - 1, by omega⟩
          have hun : zeroLR (f + 1) τi (A : Int) i Z = (if (τi.write ((A : Int) + i) (List.replicate (min 32 (Z - i)) 0)).2 = true then zeroLR f (τi.write ((A : Int) + i) (List.replicate (min 32 (Z - i)) 0)).1 (A : Int) (i + 32) Z else ((τi.write ((A : Int) + i) (List.replicate (min 32 (Z - i)) 0)).1, false)) := by
            conv => lhs; unfold zeroLR
            rw [if_pos hci]
          refine Sm.ofW ?_
          conv => whnf
          refine Br.yes rfl ?_
          conv => whnf
          refine Sm.seq ?_
          refine Sm.block ?_
          refine Sm.seqW ?_
          conv => whnf
          have e1 : IntKind.i64.wrap ((A : Int) + (i : Int)) = (A : Int) + i := wi64 (by omega) (by omega)
          have e2 : (if IntKind.i64.wrap ((Z : Int) - (i : Int)) < 32 then IntKind.i64.wrap ((Z : Int) - (i : Int)) else 32) = ((min 32 (Z - i) : Nat) : Int) := by
            rw [wi64 (by omega) (by omega)]; split <;> omega
          generalize hm : min 32 (Z - i) = m at e2 hun
          refine hp.mks B26 rfl m e2 e2 (by omega) ?_
          clear hp
          intro b7 s hp _
          rw [← byteVals_replicate] at hp
          conv => whnf
          have hlr : (List.replicate m (0 : UInt8)).length = m := by simp
          replace hp := hp.blkOn (n := m) (by repeat (first | exact Rm.here | apply Rm.there)) (by rw [byteVals_length]; simp)
          replace hp := hp.iceO (by repeat (first | exact Rm.here | apply Rm.there))
          rw [e1]
          refine refWrite_spec hp (σ := τi) (ks := ks) (kb := kb) (by repeat (first | exact Rm.here | apply Rm.there)) (by repeat (first | exact Rm.here | apply Rm.there)) hli _ (κ := some b7) (l := List.replicate m 0) (by rw [hlr]; exact .here) ?_
          clear hp
          intro s hp
          replace hp := hp.pikR (R' := R) (.skip (.refl R))
          have hwl := RL.write_len τi ((A : Int) + i) (List.replicate m 0)
          have e3 : IntKind.i64.wrap ((i : Int) + 32) = ((i + 32 : Nat) : Int) := by rw [wi64 (by omega) (by omega)]; omega
          conv => whnf
          cases hwr : (τi.write ((A : Int) + i) (List.replicate m 0)).2 with
          | false =>
            rw [hwr] at hun
            rw [hun] at hO
            simp only [Bool.false_eq_true, if_false] at hO
            rw [hO] at hDown
            refine Sm.ofW ?_
            conv => whnf
            refine Br.yes rfl ?_
            conv => whnf
            exact ⟨hDown rfl _ (hp.pik (by repeat (first | exact Pik.nil | exact Pik.refl _ | exact Rm.here | apply Rm.there | apply Pik.cons | apply Pik.skip)))⟩
          | true =>
            rw [hwr, if_pos rfl] at hun
            refine Sm.ofW ?_
            conv => whnf
            refine Br.no rfl ?_
            conv => whnf
            refine Sm.ofW ?_
            conv => whnf
            exact ⟨(i + 32, _, f), by (show Z + 32 - (i + 32) < Z + 32 - i); omega, subK_ok (by refine ⟨rfl, rfl, rfl, rfl, rfl, congrArg (fun x => some (Value.int .i64 x)) e3, trivial⟩), by (show i + 32 ≤ Z + 32); omega, by (show Z < f * 32 + (i + 32)); omega, by (show (τi.write ((A : Int) + i) (List.replicate m 0)).1.b.length ≤ 65536); omega, hp.pik (by repeat (first | exact Pik.nil | exact Pik.refl _ | exact Rm.here | apply Rm.there | apply Pik.cons | apply Pik.skip)), he.trans hun⟩
        · have hlt : decide ((i : Int) < (Z : Int)) = false := decide_eq_false (by omega)
          have hun : zeroLR f τi (A : Int) i Z = (τi, true) := by
            cases f with
            | zero => rfl
            | succ f => unfold zeroLR; rw [if_neg hci]
          simp only [hun, if_true] at hO
          rw [hO] at hOk
          refine Sm.seqC (fun e L' s3 => e = .normal ∧ s3 = s ∧ Sub [(8, .pointer (some ⟨br, 0, none⟩)), (130, .bool false)] L') ?_ ?_
          · conv => whnf
            repeat (first | (refine Br.no (by first | with_reducible rfl | exact hlt) ?_; conv => whnf))
            exact ⟨rfl, rfl, subK_ok ⟨rfl, rfl, trivial⟩⟩
          rintro e L' s ⟨rfl, rfl, hsub⟩
          refine Sm.weak _ hsub ?_
          clear hsub
          refine Sm.ofW ?_
          conv => whnf
          refine Br.no rfl ?_
          conv => whnf
          refine Sm.seqW ?_
          conv => whnf
          refine Sm.ofW ?_
          conv => whnf
          exact ⟨hOk _ rfl br br κl (.slice al l.length cl) _ (hp.pik (by repeat (first | exact Pik.nil | exact Pik.refl _ | exact Rm.here | apply Rm.there | apply Pik.cons | apply Pik.skip)))⟩
end
end Go.Ev
end

/- Rolls: raw calls; two lists of records that are alike. No condition. -/
noncomputable section
namespace Go.Ev
open Go.Proofs
set_option linter.unusedVariables false
set_option maxRecDepth 100000

/-- One element of a slice of structs. -/
theorem load_agg {P : Program} {t : TypeId} {fs : Array Field} {i : TypeInfo} (hu : P.underlying t = some (.struct fs)) (hi : P.info? t = some i) {s : St} {b off : Nat} {C cs : List Value} (hr : s.rd b = some C) (hs : sl C off i.size = some cs) :
    evLoad P t (.pointer (some ⟨b, off, none⟩)) s = some (.agg cs.toArray) := by
  unfold evLoad
  simp only [hr, hu, hi, hs]
theorem sl_sub {C cs : List Value} {off n i m : Nat} (h : Go.Ev.sl C off n = some cs) (hi : i + m ≤ n) : Go.Ev.sl C (off + i) m = some ((cs.drop i).take m) := by
  obtain ⟨g1, g2, g3, _⟩ := sl_some h
  have e : (List.drop (off + i) C).take m = (cs.drop i).take m := by
    rw [g2, List.drop_take, List.drop_drop, List.take_take, Nat.min_eq_left (by omega)]
  have hl : cs.length = n := by rw [g2]; simp; omega
  unfold Go.Ev.sl
  simp only [e]
  have : ((cs.drop i).take m).length = m := by simp; omega
  rw [this]; simp
theorem index_slN {P : Program} {t et sz by_ : Nat} {z : Value} (T : SlT P t et sz by_ z) {fs : Array Field} (hu : P.underlying et = some (.struct fs)) {s : St} {κ : Option Nat} {v : Value} {n i : Nat} {cs : List Value} (h : Sl s κ v sz n cs) (k : IntKind) (hi : i < n) :
    ∃ a, evIndexAddr P t v (.int k (i : Int)) = some (.pointer (some a)) ∧ evLoad P et (.pointer (some a)) s = some (.agg ((cs.drop (i * sz)).take sz).toArray) := by
  obtain ⟨j, hi1, hi2, hi3, hi4⟩ := T.hi
  rcases h.ex with ⟨rfl, rfl, rfl, rfl⟩ | ⟨b, off, c, C, rfl, hc, hl, hs, hm⟩
  · omega
  · have hr : s.rd b = some C := by
      rcases hm with ⟨k, _, hm⟩ | ⟨_, hm⟩
      · exact hm.rd
      · exact hm.rd
    have hle : i * sz + sz ≤ n * sz := by
      have : (i + 1) * sz ≤ n * sz := Nat.mul_le_mul_right _ hi
      rw [Nat.add_mul, Nat.one_mul] at this; exact this
    refine ⟨⟨b, off + i * sz, none⟩, ?_, load_agg hu hi1 hr (by rw [hi2]; exact sl_sub hs hle)⟩
    show (match P.underlying t, Value.slice (some ⟨b, off, none⟩) n c, Value.int k (.ofNat i) with
        | some (.slice e), .slice (some a) n _, .int _ (.ofNat i) => match Nat.blt i n, P.info? e with
          | true, some j => some (Value.pointer (some ⟨a.block, a.off + i * j.size, none⟩))
          | _, _ => none
        | some (.array n e), .pointer (some a), .int _ (.ofNat i) => match Nat.blt i n, P.info? e with
          | true, some j => some (Value.pointer (some ⟨a.block, a.off + i * j.size, none⟩))
          | _, _ => none
        | _, _, _ => none) = _
    rw [T.hu]
    simp only [blt_of hi, hi1, hi2]
/-- A call, raw. -/
structure Rw7 where
  what : Int
  seq : Int
  torn : Int
  body : ByteArray
def Rw7.cells (x : Rw7) : List Value := [.int .i64 x.what, .int .i64 x.seq, .int .i64 x.torn, .string x.body]
def Rw7.val (x : Rw7) : Value := .agg #[.int .i64 x.what, .int .i64 x.seq, .int .i64 x.torn, .string x.body]
structure Rw7.ok (x : Rw7) : Prop where
  what : inR x.what
  seq : inR x.seq
  torn : inR x.torn
  body : (bs x.body).length ≤ 140737488351232
theorem rw7_fits {r : List Value} (h : Fits [.int .i64, .int .i64, .int .i64, .str] r) : ∃ x : Rw7, r = x.cells ∧ x.ok := by
  have hl := h.length
  match r, hl with
  | [a, b, c, d], _ =>
  obtain ⟨h1, h2, h3, h4, _⟩ := h
  cases a <;> try exact h1.elim
  cases b <;> try exact h2.elim
  cases c <;> try exact h3.elim
  cases d <;> try exact h4.elim
  obtain ⟨rfl, h1⟩ := h1
  obtain ⟨rfl, h2⟩ := h2
  obtain ⟨rfl, h3⟩ := h3
  exact ⟨⟨_, _, _, _⟩, rfl, i64_wf h1, i64_wf h2, i64_wf h3, h4⟩
theorem R46 : SlT Try.prog 46 53 4 40 (.agg #[.int .i64 0, .int .i64 0, .int .i64 0, .string ⟨#[]⟩]) := ⟨Try.underlying46, ⟨_, rfl, rfl, rfl, rfl⟩, rfl, rfl, by decide, by decide⟩
def rw7Cells (l : List Rw7) : List Value := (l.map Rw7.cells).flatten
theorem rw7_at {l : List Rw7} {i : Nat} (h : i < l.length) : ((rw7Cells l).drop (i * 4)).take 4 = l[i].cells := by
  induction i generalizing l with
  | zero =>
    cases l with
    | nil => simp at h
    | cons x l => rfl
  | succ i ih =>
    cases l with
    | nil => simp at h
    | cons x l =>
      show ((x.cells ++ rw7Cells l).drop ((i + 1) * 4)).take 4 = _
      rw [show (i + 1) * 4 = 4 + i * 4 by omega, ← List.drop_drop]
      show ((rw7Cells l).drop (i * 4)).take 4 = _
      rw [ih (by simpa using h)]
      rfl
theorem index_rw7 {s : St} {κ : Option Nat} {v : Value} {l : List Rw7} (h : Sl s κ v 4 l.length (rw7Cells l)) (k : IntKind) {i : Nat} (hi : i < l.length) :
    ∃ a, evIndexAddr Try.prog 46 v (.int k (i : Int)) = some (.pointer (some a)) ∧ evLoad Try.prog 53 (.pointer (some a)) s = some l[i].val := by
  obtain ⟨a, e1, e2⟩ := index_slN R46 Try.underlying53 h k hi
  rw [rw7_at hi] at e2
  exact ⟨a, e1, e2⟩
theorem same7_spec (s : St) {κ κ' : Option Nat} {v w : Value} {l : List Rr} (hv : Srr s κ v l) (hw : Srr s κ' w l) (hl : l.length ≤ 100000) :
    Cw Try.prog 26 [v, w] s fun r s' => s' = s ∧ r = .bool true := by
  obtain ⟨a, c, rfl⟩ := hv.shape
  obtain ⟨a', c', rfl⟩ := hw.shape
  refine Cw.enterS Try.func26 rfl rfl ?_
  refine Sm.seqW ?_
  conv => whnf
  refine Sm.seq ?_
  refine Sm.seqW ?_
  conv => whnf
  refine Sm.ofW ?_
  conv => whnf
  refine Br.no (by simp) ?_
  conv => whnf
  refine Sm.seq ?_
  refine Sm.seqW ?_
  conv => whnf
  refine Sm.live [0, 1, 12, 13] ?_
  conv => whnf
  refine Sm.block ?_
  refine Sm.loop ?_
  refine Lp.ofS (α := Nat) (fun i => [(0, .slice a l.length c), (1, .slice a' l.length c'), (12, .int .i64 (l.length : Int)), (13, .int .i64 (i : Int))])
    (fun i s' => s' = s ∧ i ≤ l.length) (fun i => l.length - i) ?_ 0 (subK_ok (by refine ⟨rfl, rfl, rfl, rfl, trivial⟩)) ⟨rfl, by omega⟩
  rintro i s' ⟨rfl, hi⟩
  refine Sm.seqW ?_
  conv => whnf
  refine Sm.seq ?_
  refine Sm.ofW ?_
  conv => whnf
  refine Br.mk (fun hc => ?_) (fun hc => ?_)
  · have hc : i < l.length := by have := of_decide_eq_true hc; omega
    conv => whnf
    obtain ⟨b1, o1, C1, i1, r1, j1⟩ := fld_at R39 hv .i64 (i := i) hc
    obtain ⟨b2, o2, C2, i2, r2, j2⟩ := fld_at R55 hw .i64 (i := i) hc
    have s1 : C1[o1 + 0]? = some (.int .i64 l[i].seq) := by rw [j1 0 (by decide), rr_cell hc (by decide)]; rfl
    have s2 : C2[o2 + 0]? = some (.int .i64 l[i].seq) := by rw [j2 0 (by decide), rr_cell hc (by decide)]; rfl
    have t1 : C1[o1 + 1]? = some (.string l[i].body) := by rw [j1 1 (by decide), rr_cell hc (by decide)]; rfl
    have t2 : C2[o2 + 1]? = some (.string l[i].body) := by rw [j2 1 (by decide), rr_cell hc (by decide)]; rfl
    have q1 : (l[i].seq != l[i].seq) = false := by simp
    have q2 : (!(bs l[i].body == bs l[i].body)) = false := by simp
    refine Sm.seq ?_
    refine Sm.block ?_
    refine Sm.seqW ?_
    conv => whnf
    refine Sm.seqW ?_
    conv => whnf
    refine ⟨[0, 0, 3, 7, 15, 0, 0, 96, 224, 480, 1023, 2047, 4095, 4095, 16383, 32767, 65535, 4095, 4095, 397311, 921599, 1970175, 4194303, 8388607], by decide +kernel, by decide +kernel, ?_⟩
    conv => whnf
    refine Om.of _ (i1) ?_
    conv => whnf
    refine Om.of _ (load_cell Try.underlying3 rfl rfl r1 s1) ?_
    conv => whnf
    refine Om.of _ (i2) ?_
    conv => whnf
    refine Om.of _ (load_cell Try.underlying3 rfl rfl r2 s2) ?_
    conv => whnf
    repeat (first | (refine Br.no (by first | with_reducible rfl | exact q1) ?_; conv => whnf))
    refine Om.of _ (i1) ?_
    conv => whnf
    repeat (first | (refine Br.no (by first | with_reducible rfl | exact q1) ?_; conv => whnf))
    refine Om.of _ (load_cell Try.underlying9 rfl rfl r1 t1) ?_
    conv => whnf
    repeat (first | (refine Br.no (by first | with_reducible rfl | exact q1) ?_; conv => whnf))
    refine Om.of _ (i2) ?_
    conv => whnf
    repeat (first | (refine Br.no (by first | with_reducible rfl | exact q1) ?_; conv => whnf))
    refine Om.of _ (load_cell Try.underlying9 rfl rfl r2 t2) ?_
    conv => whnf
    repeat (first | (refine Br.no (by first | with_reducible rfl | exact q1) ?_; conv => whnf))
    refine Om.of _ (str_ne _ _) ?_
    conv => whnf
    repeat (first | (refine Br.no (by first | with_reducible rfl | exact q1 | exact q2) ?_; conv => whnf))
    refine Sm.ofW ?_
    conv => whnf
    refine Br.no (by first | exact q2 | rfl) ?_
    conv => whnf
    refine Sm.ofW ?_
    conv => whnf
    have e6 : IntKind.i64.wrap ((i : Int) + 1) = ((i + 1 : Nat) : Int) := by rw [wi64 (by omega) (by omega)]; omega
    exact ⟨i + 1, by (show l.length - (i + 1) < l.length - i); omega, subK_ok (by refine ⟨rfl, rfl, rfl, congrArg (fun x => some (Value.int .i64 x)) e6, trivial⟩), rfl, hc⟩
  · conv => whnf
    refine Sm.seqW ?_
    conv => whnf
    refine Sm.ofW ?_
    conv => whnf
    exact ⟨rfl, rfl⟩
end Go.Ev
end

/- Rolls without a program: what opening and appending leave. No condition. -/
noncomputable section
namespace Go.Ev
open Go.Proofs
set_option linter.unusedVariables false
set_option maxRecDepth 100000

theorem parseL_recs : ∀ (f : Nat) (b : List UInt8) (u : Nat) (l : List Rr), l.length * 20 ≤ u → (parseL f b u l).1.length * 20 ≤ (parseL f b u l).2
  | 0, _, _, _, h => h
  | f + 1, b, u, l, h => by
    unfold parseL
    split
    · exact h
    · rename_i x n hw
      split
      · exact h
      · have hn := wholeF_n hw
        exact parseL_recs f b (u + n) (l ++ [x]) (by simp; omega)
theorem zeroL_len : ∀ (f : Nat) (σ : SL) (base : Int) (at_ len : Nat), (zeroL f σ base at_ len).1.b.length = σ.b.length
  | 0, _, _, _, _ => rfl
  | f + 1, σ, base, at_, len => by
    unfold zeroL
    split
    · split
      · rw [zeroL_len, SL.write_len]
      · rw [SL.write_len]
    · rfl
theorem openF_len (σ : SL) (a z : Int) : (openF σ a z).2.b.length = σ.b.length := by
  unfold openF
  split
  · rfl
  split
  · rfl
  rename_i b _
  have : (zeroF σ (a + (parseF b).2) (b.drop (parseF b).2)).1.b.length = σ.b.length := by
    unfold zeroF
    split
    · exact zeroL_len _ _ _ _ _
    · rfl
  generalize zeroF σ (a + (parseF b).2) (b.drop (parseF b).2) = q at this
  obtain ⟨q1, q2⟩ := q
  simp only at this ⊢
  split <;> exact this
theorem openF_ok {σ : SL} {a z : Int} {ro : RO} (h : (openF σ a z).1 = .ok ro) : 0 ≤ a ∧ 32 ≤ z ∧ z ≤ 8192 ∧ a + z ≤ σ.b.length ∧ ro.at_ = a.toNat ∧ ro.size = z.toNat ∧ ro.used ≤ ro.size ∧ ro.l.length * 20 ≤ ro.used := by
  unfold openF at h
  split at h
  · cases h
  rename_i hc
  split at h
  · cases h
  rename_i b hr
  have hbl : b.length = z.toNat := by
    unfold SL.read at hr
    split at hr <;> first | contradiction | skip
    injection hr with hr
    rw [← hr]; simp; omega
  have hle : (parseF b).2 ≤ b.length := (parseL_le _ _ _ _ (Nat.zero_le _)).1
  have hre : (parseF b).1.length * 20 ≤ (parseF b).2 := parseL_recs _ _ _ _ (by simp)
  generalize zeroF σ (a + (parseF b).2) (b.drop (parseF b).2) = q at h
  obtain ⟨q1, q2⟩ := q
  simp only at h
  split at h
  · injection h with h
    subst h
    exact ⟨by omega, by omega, by omega, by omega, rfl, rfl, by simp only; omega, hre⟩
  · cases h
theorem appF_len (σ : SL) (ro : RO) (r : Rr) : (appF σ ro r).2.1.b.length = σ.b.length := by
  unfold appF
  split
  · rfl
  split
  · rfl
  split
  · exact SL.write_len _ _ _
  · exact SL.write_len _ _ _
theorem appF_ro (σ : SL) (ro : RO) (r : Rr) (h1 : ro.used ≤ ro.size) (h2 : ro.l.length * 20 ≤ ro.used) : (appF σ ro r).2.2.at_ = ro.at_ ∧ (appF σ ro r).2.2.size = ro.size ∧ (appF σ ro r).2.2.used ≤ ro.size ∧ (appF σ ro r).2.2.l.length * 20 ≤ (appF σ ro r).2.2.used := by
  have hm := layF_min r ro.used
  unfold appF
  split
  · exact ⟨rfl, rfl, h1, h2⟩
  split
  · exact ⟨rfl, rfl, h1, h2⟩
  rename_i hf
  split
  · exact ⟨rfl, rfl, by simp only; omega, by simp only [List.length_append, List.length_singleton]; omega⟩
  · exact ⟨rfl, rfl, h1, h2⟩
/-- Where the two stand. -/
structure T7 where
  last : Int
  ro : RO
  σ : SL
  τ : RL
  kr : Nat
  br : Nat
  κ : Option Nat
  v : Value
  dr : Nat
  db : Nat
  κd : Option Nat
  vd : Value
structure T7.ok (A Z i : Nat) (x : T7) : Prop where
  rel : SLR x.σ x.τ
  len : x.σ.b.length = 260
  at_ : x.ro.at_ = A
  size : x.ro.size = Z
  used : x.ro.used ≤ Z
  recs : x.ro.l.length * 20 ≤ x.ro.used
  last0 : 0 ≤ x.last
  last1 : x.last ≤ 300 * (i : Int)
abbrev L7 (bp ks kb bsd ksd kbd bbd : Nat) (x : T7) : List At :=
  [blkA x.kr x.br (roCells (.pointer (some ⟨bp, 0, none⟩)) x.ro x.v) 5, onA x.κ x.v 2 x.ro.l.length (rrCells x.ro.l), slabA (.pointer (some ⟨bp, 0, none⟩)) ks kb x.σ,
   blkA x.dr x.db (drCells (.pointer (some ⟨bsd, 0, none⟩)) x.ro x.vd) 5, onA x.κd x.vd 2 x.ro.l.length (rrCells x.ro.l), blkA ksd bsd (refCells bbd x.τ) 5, blkA kbd bbd (byteVals x.τ.b) 1]
end Go.Ev
end

/- What RollTells says. No condition. -/
noncomputable section
namespace Go.Ev
open Go.Proofs
set_option linter.unusedVariables false
set_option maxRecDepth 100000

theorem tells7_walk {z : St} (wf : WF z) {at_ size : Int} (hat : inR at_) (hsz : inR size) {vb : Value} {lb : List UInt8} (hb : Sb z none vb lb) (hlb : lb.length ≤ 140737488351232) {v : Value} {l : List Rw7} (hv : Sl z none v 4 l.length (rw7Cells l)) (ok : ∀ x ∈ l, x.ok) (hl : l.length ≤ 140737488351232) :
    Cw Try.prog 6 [.int .i64 at_, .int .i64 size, vb, v] z fun r _ => r = .bool true := by
  obtain ⟨ab, cb, rfl⟩ := hb.shape
  obtain ⟨a, cp, rfl⟩ := hv.shape
  have hp : Hp (fun _ => False) z [slA none (.slice a l.length cp) 4 l.length (rw7Cells l), slA none (.slice ab lb.length cb) 1 lb.length (byteVals lb)] [] z := Hp.start _ wf _ (by simp; exact ⟨hv, hb⟩)
  refine Cw.enterS Try.func6 rfl rfl ?_
  refine Sm.seqW ?_
  conv => whnf
  refine Sm.seqW ?_
  conv => whnf
  refine (pick_spec z hat (by omega) (by omega)).mono ?_
  rintro _ s' ⟨h, rfl⟩
  rw [h]
  clear h s'
  conv => whnf
  refine Sm.seqW ?_
  conv => whnf
  refine (pick_spec z hsz (by omega) (by omega)).mono ?_
  rintro _ s' ⟨h, rfl⟩
  rw [h]
  clear h s'
  conv => whnf
  obtain ⟨a0, ha0, ha1, ha2⟩ : ∃ a0 : Int, IntKind.i64.wrap (at_ % 40 - 2) = a0 ∧ -2 ≤ a0 ∧ a0 ≤ 37 := ⟨at_ % 40 - 2, wi64 (by omega) (by omega), by omega, by omega⟩
  obtain ⟨Z, hZ0, hZ1, hZ2⟩ : ∃ Z : Nat, IntKind.i64.wrap (30 + size % 200) = (Z : Int) ∧ 30 ≤ Z ∧ Z ≤ 229 := ⟨(30 + size % 200).toNat, by rw [wi64 (by omega) (by omega)]; omega, by omega, by omega⟩
  rw [ha0, hZ0]
  clear ha0 hZ0 hat hsz
  refine Sm.live [0, 1, 2, 3] ?_
  conv => whnf
  refine Sm.seqW ?_
  conv => whnf
  refine hp.sNew 260 ?_
  clear hp
  intro bp ks kb s hp _
  conv => whnf
  refine Sm.live [0, 1, 2, 3, 9] ?_
  conv => whnf
  refine Sm.seqW ?_
  conv => whnf
  refine refNew_spec hp 260 ?_
  clear hp
  intro ksd bsd kbd bbd s hp _
  conv => whnf
  refine Sm.live [0, 1, 2, 3, 9, 10] ?_
  conv => whnf
  obtain ⟨σ, hσ⟩ : ∃ σ : SL, σ = ⟨List.replicate (max 1 (min (260 : Int) 65536)).toNat 0, 0, 0, 0, false, false⟩ := ⟨_, rfl⟩
  obtain ⟨τ, hτ⟩ : ∃ τ : RL, τ = ⟨List.replicate (max 1 (min (260 : Int) 65536)).toNat 0, -1, 0, false, 0⟩ := ⟨_, rfl⟩
  have hrel : SLR σ τ := by rw [hσ, hτ]; exact ⟨rfl, rfl, rfl, fun h => by (cases h), fun _ => by (show (-1 : Int) < 0); omega⟩
  have hlen : σ.b.length = 260 := by rw [hσ]; show (List.replicate _ _).length = 260; rw [List.length_replicate]; decide
  replace hp : Hp (fun _ => False) z [slA none (.slice a l.length cp) 4 l.length (rw7Cells l), slA none (.slice ab lb.length cb) 1 lb.length (byteVals lb)] [blkA ksd bsd (refCells bbd τ) 5, blkA kbd bbd (byteVals τ.b) 1, slabA (.pointer (some ⟨bp, 0, none⟩)) ks kb σ] s := by rw [hσ, hτ]; exact hp
  clear hσ hτ
  refine Sm.seqW ?_
  conv => whnf
  refine hp.callO (few_spec hp.wf (hp.slR (κ := none) (v := .slice ab lb.length cb) (.there .here)) (by omega) 100) ?_
  clear hp
  intro v11 κ11 s hp _
  conv => whnf
  refine Sm.live [0, 1, 3, 9, 10, 11] ?_
  conv => whnf
  have hB : (lb.take 100).length ≤ 100 := by simp; omega
  generalize lb.take 100 = B at hp hB
  refine Sm.seq ?_
  refine Sm.seqW ?_
  conv => whnf
  refine (rknown_spec hp.wf).mono ?_
  rintro _ s' ⟨rfl, k1⟩
  replace hp := hp.k0 k1
  clear k1
  conv => whnf
  repeat (first | (refine Br.yes (by first | with_reducible rfl | with_reducible exact beq_self_eq_true _ | rfl) ?_; conv => whnf) | (refine Br.no (by first | with_reducible rfl | with_reducible exact bne_self_eq_false _ | rfl) ?_; conv => whnf))
  refine Om.of (.bool false) rfl ?_
  conv => whnf
  repeat (first | (refine Br.yes (by first | with_reducible rfl | with_reducible exact beq_self_eq_true _ | rfl) ?_; conv => whnf) | (refine Br.no (by first | with_reducible rfl | with_reducible exact bne_self_eq_false _ | rfl) ?_; conv => whnf))
  refine hp.sWrite (by repeat (first | exact Rm.here | apply Rm.there)) (if a0 > 0 then a0 else 0) (κ := κ11) (v := v11) (l := B) (by repeat (first | exact Has.here | apply Has.there | (apply Has.swap; repeat (first | exact HasR.here | apply HasR.there)))) ?_
  clear hp
  intro s hp
  conv => whnf
  repeat (first | (refine Br.yes (by first | with_reducible rfl | with_reducible exact beq_self_eq_true _ | rfl) ?_; conv => whnf) | (refine Br.no (by first | with_reducible rfl | with_reducible exact bne_self_eq_false _ | rfl) ?_; conv => whnf))
  replace hp := hp.iceO (κ := κ11) (v := v11) (by repeat (first | exact Rm.here | apply Rm.there))
  refine refWrite_spec hp (σ := τ) (ks := ksd) (kb := kbd) (by repeat (first | exact Rm.here | apply Rm.there)) (by repeat (first | exact Rm.here | apply Rm.there)) (by rw [hrel.b]; omega) (if a0 > 0 then a0 else 0) (κ := κ11) (v := v11) (l := B) .here ?_
  clear hp
  intro s hp
  conv => whnf
  repeat (first | (refine Br.yes (by first | with_reducible rfl | with_reducible exact beq_self_eq_true _ | rfl) ?_; conv => whnf) | (refine Br.no (by first | with_reducible rfl | with_reducible exact bne_self_eq_false _ | rfl) ?_; conv => whnf))
  generalize (if a0 > 0 then a0 else 0) = m at hp
  obtain ⟨hw, hrel'⟩ := hrel.write m B
  have hlen' : (σ.write m B).1.b.length = 260 := by rw [SL.write_len, hlen]
  rw [hw]
  clear hw hrel hlen
  generalize (τ.write m B).1 = τ1 at hp hrel'
  generalize hq : (σ.write m B).2 = q
  generalize (σ.write m B).1 = σ1 at hp hrel' hlen'
  refine Om.of (.bool false) (by cases q <;> rfl) ?_
  conv => whnf
  repeat (first | (refine Br.yes (by first | with_reducible rfl | with_reducible exact beq_self_eq_true _ | rfl) ?_; conv => whnf) | (refine Br.no (by first | with_reducible rfl | with_reducible exact bne_self_eq_false _ | rfl) ?_; conv => whnf))
  refine Sm.ofW ?_
  conv => whnf
  repeat (first | (refine Br.yes (by first | with_reducible rfl | with_reducible exact beq_self_eq_true _ | rfl) ?_; conv => whnf) | (refine Br.no (by first | with_reducible rfl | with_reducible exact bne_self_eq_false _ | rfl) ?_; conv => whnf))
  replace hp := (hp.pikR (R' := [slA none (.slice a l.length cp) 4 l.length (rw7Cells l)]) (by repeat (first | exact Pik.nil | exact Pik.refl _ | exact Rm.here | apply Rm.there | apply Pik.cons | apply Pik.skip))).pik (G := [blkA ksd bsd (refCells bbd τ1) 5, blkA kbd bbd (byteVals τ1.b) 1, slabA (.pointer (some ⟨bp, 0, none⟩)) ks kb σ1]) (by repeat (first | exact Pik.nil | exact Pik.refl _ | exact Rm.here | apply Rm.there | apply Pik.cons | apply Pik.skip))
  refine Sm.live [0, 1, 3, 9, 10] ?_
  conv => whnf
  clear hq hb
  have hτ : τ1.b.length ≤ 65536 := by rw [hrel'.b]; omega
  obtain ⟨hO1, hO2⟩ := openR_eq hrel' a0 Z
  refine Sm.seqW ?_
  conv => whnf
  refine open_spec hp (by repeat (first | exact Rm.here | apply Rm.there)) a0 Z (by unfold inR; omega) (by unfold inR; omega) ?_ ?_ ?_
  · intro ho s hp
    rw [ho] at hO1
    conv => whnf
    refine Sm.live [0, 1, 3, 9, 10, 12, 13] ?_
    conv => whnf
    refine Sm.seqW ?_
    conv => whnf
    refine ropen_spec hp (by repeat (first | exact Rm.here | apply Rm.there)) (by repeat (first | exact Rm.here | apply Rm.there)) hτ a0 Z (by unfold inR; omega) (by unfold inR; omega) ?_ (fun h => by rw [hO1] at h; cases h) (fun ro h => by rw [hO1] at h; cases h)
    intro h s hp
    conv => whnf
    refine Sm.live [0, 1, 3, 9, 10, 12, 13, 14, 15] ?_
    conv => whnf
    refine Sm.seq ?_
    refine Sm.seqW ?_
    conv => whnf
    repeat (first | (refine Br.no rfl ?_; conv => whnf) | (refine Br.yes rfl ?_; conv => whnf) | (refine Om.of (.bool false) rfl ?_; conv => whnf) | (refine Om.of (.bool true) rfl ?_; conv => whnf))
    refine Sm.ofW ?_
    conv => whnf
    repeat (first | (refine Br.no rfl ?_; conv => whnf) | (refine Br.yes rfl ?_; conv => whnf) | (refine Om.of (.bool false) rfl ?_; conv => whnf) | (refine Om.of (.bool true) rfl ?_; conv => whnf))
    refine Sm.seq ?_
    refine Sm.seqW ?_
    conv => whnf
    refine Sm.ofW ?_
    conv => whnf
    refine Br.yes rfl ?_
    conv => whnf
    exact ⟨rfl⟩
  · intro ho s hp
    rw [ho] at hO1
    conv => whnf
    refine Sm.live [0, 1, 3, 9, 10, 12, 13] ?_
    conv => whnf
    refine Sm.seqW ?_
    conv => whnf
    refine ropen_spec hp (by repeat (first | exact Rm.here | apply Rm.there)) (by repeat (first | exact Rm.here | apply Rm.there)) hτ a0 Z (by unfold inR; omega) (by unfold inR; omega) (fun h => by rw [hO1] at h; cases h) ?_ (fun ro h => by rw [hO1] at h; cases h)
    intro h s hp
    conv => whnf
    refine Sm.live [0, 1, 3, 9, 10, 12, 13, 14, 15] ?_
    conv => whnf
    refine Sm.seq ?_
    refine Sm.seqW ?_
    conv => whnf
    repeat (first | (refine Br.no rfl ?_; conv => whnf) | (refine Br.yes rfl ?_; conv => whnf) | (refine Om.of (.bool false) rfl ?_; conv => whnf) | (refine Om.of (.bool true) rfl ?_; conv => whnf))
    refine Sm.ofW ?_
    conv => whnf
    repeat (first | (refine Br.no rfl ?_; conv => whnf) | (refine Br.yes rfl ?_; conv => whnf) | (refine Om.of (.bool false) rfl ?_; conv => whnf) | (refine Om.of (.bool true) rfl ?_; conv => whnf))
    refine Sm.seq ?_
    refine Sm.seqW ?_
    conv => whnf
    refine Sm.ofW ?_
    conv => whnf
    refine Br.yes rfl ?_
    conv => whnf
    exact ⟨rfl⟩
  intro ro ho kr br κ v s hp
  rw [ho] at hO1
  conv => whnf
  refine Sm.live [0, 1, 3, 9, 10, 12, 13] ?_
  conv => whnf
  refine Sm.seqW ?_
  conv => whnf
  refine ropen_spec hp (by repeat (first | exact Rm.here | apply Rm.there)) (by repeat (first | exact Rm.here | apply Rm.there)) hτ a0 Z (by unfold inR; omega) (by unfold inR; omega) (fun h => by rw [hO1] at h; cases h) (fun h => by rw [hO1] at h; cases h) ?_
  clear hp
  intro ro' hr dr db κd vd s hp
  rw [hO1] at hr
  injection hr with hr
  subst hr
  conv => whnf
  refine Sm.live [0, 1, 3, 9, 10, 12, 13, 14, 15] ?_
  conv => whnf
  refine Sm.seq ?_
  refine Sm.seqW ?_
  conv => whnf
  repeat (first | (refine Br.no rfl ?_; conv => whnf) | (refine Br.yes rfl ?_; conv => whnf) | (refine Om.of (.bool false) rfl ?_; conv => whnf) | (refine Om.of (.bool true) rfl ?_; conv => whnf))
  refine Sm.ofW ?_
  conv => whnf
  repeat (first | (refine Br.no rfl ?_; conv => whnf) | (refine Br.yes rfl ?_; conv => whnf) | (refine Om.of (.bool false) rfl ?_; conv => whnf) | (refine Om.of (.bool true) rfl ?_; conv => whnf))
  refine Sm.seq ?_
  refine Sm.seqW ?_
  conv => whnf
  refine Sm.ofW ?_
  conv => whnf
  refine Br.no rfl ?_
  conv => whnf
  refine Sm.seqW ?_
  conv => whnf
  refine Sm.live [0, 1, 3, 9, 10, 12, 14, 16] ?_
  conv => whnf
  refine Sm.seq ?_
  refine Sm.seqW ?_
  conv => whnf
  refine Sm.live [0, 1, 9, 10, 12, 14, 16, 77, 78, 79] ?_
  conv => whnf
  refine Sm.block ?_
  refine Sm.loop ?_
  obtain ⟨o1, o2, o3, o4, o5, o6, o7, o8⟩ := openF_ok ho
  obtain ⟨A, rfl⟩ : ∃ A : Nat, a0 = (A : Int) := ⟨a0.toNat, by omega⟩
  simp only [Int.toNat_natCast] at o5 o6
  have hZ3 : 32 ≤ Z := by omega
  have hA3 : A + Z ≤ 260 := by omega
  have hx0 : T7.ok A Z 0 ⟨0, ro, (openF σ1 A Z).2, (openR τ1 A Z).2, kr, br, κ, v, dr, db, κd, vd⟩ := ⟨hO2, by rw [openF_len]; exact hlen', o5, o6, by simp only; omega, o8, Int.le_refl _, by simp⟩
  have hp0 : Hp (fun _ => False) z [slA none (.slice a l.length cp) 4 l.length (rw7Cells l)] (L7 bp ks kb bsd ksd kbd bbd ⟨0, ro, (openF σ1 A Z).2, (openR τ1 A Z).2, kr, br, κ, v, dr, db, κd, vd⟩) s := hp.pik (by repeat (first | exact Pik.nil | exact Pik.refl _ | exact Rm.here | apply Rm.there | apply Pik.cons | apply Pik.skip))
  clear hp ho hO1 hO2 hrel' hlen' hτ o1 o2 o3 o4 o5 o6 o7 o8 hv
  refine Lp.ofS (α := Nat × T7) (fun y => [(0, .int .i64 (A : Int)), (1, .int .i64 (Z : Int)), (9, .pointer (some ⟨bp, 0, none⟩)), (10, .pointer (some ⟨bsd, 0, none⟩)), (12, .pointer (some ⟨y.2.br, 0, none⟩)), (14, .pointer (some ⟨y.2.db, 0, none⟩)), (16, .int .i64 y.2.last), (77, .slice a l.length cp), (78, .int .i64 (l.length : Int)), (79, .int .i64 (y.1 : Int))])
    (fun y s' => y.1 ≤ l.length ∧ y.2.ok A Z y.1 ∧ Hp (fun _ => False) z [slA none (.slice a l.length cp) 4 l.length (rw7Cells l)] (L7 bp ks kb bsd ksd kbd bbd y.2) s') (fun y => l.length - y.1) ?_ (0, _)
    (subK_ok (by refine ⟨rfl, rfl, rfl, rfl, rfl, rfl, rfl, rfl, rfl, rfl, trivial⟩)) ⟨Nat.zero_le _, hx0, hp0⟩
  clear hp0 hx0
  rintro ⟨i, y⟩ s ⟨hi, oky, hp⟩
  simp only at hi oky hp
  unfold L7 at hp
  obtain ⟨oy1, oy2, oy3, oy4, oy5, oy6, oy7, oy8⟩ := oky
  refine Sm.seqW ?_
  conv => whnf
  refine Sm.seq ?_
  refine Sm.ofW ?_
  conv => whnf
  refine Br.mk (fun hc => ?_) (fun hc => ?_)
  · have hc : i < l.length := by have := of_decide_eq_true hc; omega
    conv => whnf
    refine Sm.seq ?_
    refine Sm.block ?_
    refine Sm.seqW ?_
    conv => whnf
    obtain ⟨p, e1, e2⟩ := index_rw7 (hp.slR .here) .i64 hc
    refine Om.of _ (e1) ?_
    conv => whnf
    refine Om.of _ (e2) ?_
    conv => whnf
    have okx := ok _ (List.getElem_mem hc)
    generalize l[i] = x at okx
    clear e1 e2
    refine hp.alloc (cs := Rw7.cells ⟨0, 0, 0, ⟨#[]⟩⟩) (e := 4) rfl rfl rfl rfl rfl ?_
    clear hp
    intro p18 s hp _
    conv => whnf
    refine hp.storeW (vs := x.cells) (C := Rw7.cells ⟨0, 0, 0, ⟨#[]⟩⟩) rfl (by repeat (first | exact Rm.here | apply Rm.there)) (by rfl) rfl rfl rfl ?_
    clear hp
    intro s hp _
    conv => whnf
    refine Sm.live [0, 1, 9, 10, 12, 14, 16, 18, 77, 78, 79] ?_
    conv => whnf
    refine Sm.seqC (fun e L' s' => e = .normal ∧ ∃ y : T7, y.ok A Z (i + 1) ∧ Hp (fun _ => False) z [slA none (.slice a l.length cp) 4 l.length (rw7Cells l)] (L7 bp ks kb bsd ksd kbd bbd y) s' ∧
      Sub [(0, .int .i64 (A : Int)), (1, .int .i64 (Z : Int)), (9, .pointer (some ⟨bp, 0, none⟩)), (10, .pointer (some ⟨bsd, 0, none⟩)), (12, .pointer (some ⟨y.br, 0, none⟩)), (14, .pointer (some ⟨y.db, 0, none⟩)), (16, .int .i64 y.last), (77, .slice a l.length cp), (78, .int .i64 (l.length : Int)), (79, .int .i64 (i : Int))] L') ?_ ?_
    · conv => whnf
      (refine hp.load (by repeat (first | exact Has.here | apply Has.there | (apply Has.swap; repeat (first | exact HasR.here | apply HasR.there)))) (by rfl) rfl rfl rfl ?_; conv => whnf)
      refine (pick_spec _ okx.what (by omega) (by omega)).mono ?_
      rintro _ s' ⟨h, rfl⟩
      rw [h]
      clear h s'
      conv => whnf
      refine Br.mk (fun hq => ?_) (fun hq => ?_)
      · conv => whnf
        refine ⟨[0, 0, 2, 6, 0, 16, 62, 127], by decide +kernel, by decide +kernel, ?_⟩
        conv => whnf
        (refine hp.load (by repeat (first | exact Has.here | apply Has.there | (apply Has.swap; repeat (first | exact HasR.here | apply HasR.there)))) (by rfl) rfl rfl rfl ?_; conv => whnf)
        refine (pick_spec _ okx.seq (by omega) (by omega)).mono ?_
        rintro _ s' ⟨h, rfl⟩
        rw [h]
        clear h s'
        conv => whnf
        refine hp.dkS ?_
        conv => whnf
        (refine hp.load (by repeat (first | exact Has.here | apply Has.there | (apply Has.swap; repeat (first | exact HasR.here | apply HasR.there)))) (by rfl) rfl rfl rfl ?_; conv => whnf)
        refine (pick_spec _ okx.torn (by omega) (by omega)).mono ?_
        rintro _ s' ⟨h, rfl⟩
        rw [h]
        clear h s'
        conv => whnf
        refine hp.dkS ?_
        conv => whnf
        refine hp.rst.sCut (by repeat (first | exact Rm.here | apply Rm.there)) (x.seq % 4) (x.torn % 60) ?_
        intro v5 s5 h5
        conv => whnf
        refine hp.dkA h5 ?_ ?_
        all_goals
          clear hp h5
          intro s hp
          conv => whnf
          refine ⟨[0, 0, 2, 6, 0, 16, 62, 127], by decide +kernel, by decide +kernel, ?_⟩
          conv => whnf
          (refine hp.load (by repeat (first | exact Has.here | apply Has.there | (apply Has.swap; repeat (first | exact HasR.here | apply HasR.there)))) (by rfl) rfl rfl rfl ?_; conv => whnf)
          refine (pick_spec _ okx.seq (by omega) (by omega)).mono ?_
          rintro _ s' ⟨h, rfl⟩
          rw [h]
          clear h s'
          conv => whnf
          refine hp.dkS ?_
          conv => whnf
          (refine hp.load (by repeat (first | exact Has.here | apply Has.there | (apply Has.swap; repeat (first | exact HasR.here | apply HasR.there)))) (by rfl) rfl rfl rfl ?_; conv => whnf)
          refine (pick_spec _ okx.torn (by omega) (by omega)).mono ?_
          rintro _ s' ⟨h, rfl⟩
          rw [h]
          clear h s'
          conv => whnf
          refine hp.dkS ?_
          conv => whnf
          refine refCut_spec hp.rst (by repeat (first | exact Rm.here | apply Rm.there)) (x.seq % 4) (x.torn % 60) ?_
          intro v6 s6 h6
          conv => whnf
          refine hp.dkA h6 ?_ ?_
          all_goals
            clear hp h6
            intro s hp
            conv => whnf
            refine ⟨rfl, ⟨y.last, y.ro, { y.σ with left := x.seq % 4, torn := x.torn % 60, limits := decide (x.seq % 4 ≥ 0) }, { y.τ with left := max (-1) (x.seq % 4), torn := x.torn % 60 }, y.kr, y.br, y.κ, y.v, y.dr, y.db, y.κd, y.vd⟩, ⟨oy1.cut (by omega), oy2, oy3, oy4, oy5, oy6, oy7, by (show y.last ≤ _); push_cast; omega⟩, hp.pik (by repeat (first | exact Pik.nil | exact Pik.refl _ | exact Rm.here | apply Rm.there | apply Pik.cons | apply Pik.skip)), subK_ok ⟨rfl, rfl, rfl, rfl, rfl, rfl, rfl, rfl, rfl, rfl, trivial⟩⟩
      · conv => whnf
        refine Br.mk (fun hq => ?_) (fun hq => ?_)
        · conv => whnf
          refine hp.sRevive (by repeat (first | exact Rm.here | apply Rm.there)) ?_
          clear hp
          intro v5 s hp
          conv => whnf
          refine refRevive_spec hp (by repeat (first | exact Rm.here | apply Rm.there)) ?_
          clear hp
          intro v6 s hp
          conv => whnf
          have hrel := oy1.revive
          have hl2 : ({ y.σ with dead := false, limits := false } : SL).b.length = 260 := oy2
          obtain ⟨ho1, -⟩ := open_apart (σ := { y.σ with dead := false, limits := false }) (A := A) (Z := Z) rfl rfl hZ3 (by omega) (by omega)
          generalize ({ y.σ with dead := false, limits := false } : SL) = σ2 at hp hrel hl2 ho1
          generalize hτ2 : ({ y.τ with dead := false, left := -1 } : RL) = τ2 at hp hrel
          have hb2 : y.τ.b = τ2.b := by rw [← hτ2]
          rw [hb2] at hp
          clear hτ2 hb2
          obtain ⟨hr1, hr2⟩ := openR_eq hrel (A : Int) (Z : Int)
          rw [ho1] at hr1
          generalize (⟨A, Z, (parseF ((σ2.b.drop A).take Z)).2, (parseF ((σ2.b.drop A).take Z)).1⟩ : RO) = ro2 at ho1 hr1
          obtain ⟨u1, u2, u3, u4, u5, u6, u7, u8⟩ := openF_ok ho1
          simp only [Int.toNat_natCast] at u5 u6
          refine open_spec hp (by repeat (first | exact Rm.here | apply Rm.there)) (A : Int) (Z : Int) (by unfold inR; omega) (by unfold inR; omega) (fun h => by rw [ho1] at h; cases h) (fun h => by rw [ho1] at h; cases h) ?_
          clear hp
          intro ro3 h3 kr2 br2 κ2 v2 s hp
          rw [ho1] at h3
          injection h3 with h3
          subst h3
          conv => whnf
          refine ropen_spec hp (by repeat (first | exact Rm.here | apply Rm.there)) (by repeat (first | exact Rm.here | apply Rm.there)) (by rw [hrel.b]; omega) (A : Int) (Z : Int) (by unfold inR; omega) (by unfold inR; omega) (fun h => by rw [hr1] at h; cases h) (fun h => by rw [hr1] at h; cases h) ?_
          clear hp
          intro ro3 h3 dr2 db2 κd2 vd2 s hp
          rw [hr1] at h3
          injection h3 with h3
          subst h3
          conv => whnf
          repeat (first | (refine Br.no rfl ?_; conv => whnf) | (refine Br.yes rfl ?_; conv => whnf) | (refine Om.of (.bool false) rfl ?_; conv => whnf) | (refine Om.of (.bool true) rfl ?_; conv => whnf))
          refine ⟨rfl, ⟨y.last, ro2, (openF σ2 A Z).2, (openR τ2 A Z).2, kr2, br2, κ2, v2, dr2, db2, κd2, vd2⟩, ⟨hr2, by (show (openF σ2 A Z).2.b.length = 260); rw [openF_len]; exact hl2, u5, u6, by (show ro2.used ≤ Z); omega, u8, oy7, by (show y.last ≤ _); push_cast; omega⟩, hp.pik (by repeat (first | exact Pik.nil | exact Pik.refl _ | exact Rm.here | apply Rm.there | apply Pik.cons | apply Pik.skip)), subK_ok ⟨rfl, rfl, rfl, rfl, rfl, rfl, rfl, rfl, rfl, rfl, trivial⟩⟩
        · conv => whnf
          refine Br.mk (fun hq => ?_) (fun hq => ?_)
          · conv => whnf
            refine ⟨[0, 0, 2, 0, 8, 31, 0, 0, 128, 0, 512, 2047, 4095], by decide +kernel, by decide +kernel, ?_⟩
            conv => whnf
            obtain ⟨ha1, ha2, ha3⟩ := appR_eq oy1 y.ro ⟨x.seq, x.body⟩
            obtain ⟨b1, b2, b3, b4⟩ := appF_ro y.σ y.ro ⟨x.seq, x.body⟩ (by omega) oy6
            (refine hp.load (by repeat (first | exact Has.here | apply Has.there | (apply Has.swap; repeat (first | exact HasR.here | apply HasR.there)))) (by rfl) rfl rfl rfl ?_; conv => whnf)
            (refine hp.load (by repeat (first | exact Has.here | apply Has.there | (apply Has.swap; repeat (first | exact HasR.here | apply HasR.there)))) (by rfl) rfl rfl rfl ?_; conv => whnf)
            refine append_spec hp.rst (ro := y.ro) (kr := y.kr) (br := y.br) (κ := y.κ) (v := y.v) (σ := y.σ) (ks := ks) (kb := kb) (by repeat (first | exact Rm.here | apply Rm.there)) (by repeat (first | exact Rm.here | apply Rm.there)) (by repeat (first | exact Rm.here | apply Rm.there)) (by omega) (by omega) (by omega) (by omega) ⟨x.seq, x.body⟩ okx.body ?_
            intro v5 κ5 s5 h5
            conv => whnf
            have hpo := hp
            refine hp.dkA h5 ?_ ?_
            all_goals
              clear hp h5
              intro s hp
              conv => whnf
              (refine hp.load (by repeat (first | exact Has.here | apply Has.there | (apply Has.swap; repeat (first | exact HasR.here | apply HasR.there)))) (by rfl) rfl rfl rfl ?_; conv => whnf)
              try (refine ⟨hpo.sa hp (k := p18) (C := x.cells) (e := 4) (by repeat (first | exact Has.here | apply Has.there | (apply Has.swap; repeat (first | exact HasR.here | apply HasR.there)))) (by repeat (first | exact Has.here | apply Has.there | (apply Has.swap; repeat (first | exact HasR.here | apply HasR.there)))), ?_⟩; conv => whnf)
              (refine hp.load (by repeat (first | exact Has.here | apply Has.there | (apply Has.swap; repeat (first | exact HasR.here | apply HasR.there)))) (by rfl) rfl rfl rfl ?_; conv => whnf)
              try (refine ⟨hpo.sa hp (k := p18) (C := x.cells) (e := 4) (by repeat (first | exact Has.here | apply Has.there | (apply Has.swap; repeat (first | exact HasR.here | apply HasR.there)))) (by repeat (first | exact Has.here | apply Has.there | (apply Has.swap; repeat (first | exact HasR.here | apply HasR.there)))), ?_⟩; conv => whnf)
              refine rappend_spec hp.rst (ro := y.ro) (kr := y.dr) (br := y.db) (κ := y.κd) (v := y.vd) (τ := y.τ) (ks := ksd) (kb := kbd) (by repeat (first | exact Rm.here | apply Rm.there)) (by repeat (first | exact Rm.here | apply Rm.there)) (by repeat (first | exact Rm.here | apply Rm.there)) (by repeat (first | exact Rm.here | apply Rm.there)) (by rw [oy1.b]; omega) (by omega) (by omega) (by omega) (by omega) ⟨x.seq, x.body⟩ okx.body ?_
              intro v6 κ6 s6 h6
              rw [ha1]
              rw [ha2] at h6
              conv => whnf
              refine hp.dkA h6 ?_ ?_
              all_goals
                clear hp h6
                intro s hp
                conv => whnf
                refine Br.no (bne_self_eq_false' ..) ?_
                conv => whnf
                exact ⟨rfl, ⟨y.last, (appF y.σ y.ro ⟨x.seq, x.body⟩).2.2, (appF y.σ y.ro ⟨x.seq, x.body⟩).2.1, (appR y.τ y.ro ⟨x.seq, x.body⟩).2.1, y.kr, y.br, κ5, v5, y.dr, y.db, κ6, v6⟩, ⟨ha3, by (show (appF y.σ y.ro ⟨x.seq, x.body⟩).2.1.b.length = 260); rw [appF_len]; exact oy2, by (show (appF y.σ y.ro ⟨x.seq, x.body⟩).2.2.at_ = A); rw [b1, oy3], by (show (appF y.σ y.ro ⟨x.seq, x.body⟩).2.2.size = Z); rw [b2, oy4], by (show (appF y.σ y.ro ⟨x.seq, x.body⟩).2.2.used ≤ Z); omega, b4, oy7, by (show y.last ≤ _); push_cast; omega⟩, hp.pik (by repeat (first | exact Pik.nil | exact Pik.refl _ | exact Rm.here | apply Rm.there | apply Pik.cons | apply Pik.skip)), subK_ok ⟨rfl, rfl, rfl, rfl, rfl, rfl, rfl, rfl, rfl, rfl, trivial⟩⟩
          · conv => whnf
            (refine hp.load (by repeat (first | exact Has.here | apply Has.there | (apply Has.swap; repeat (first | exact HasR.here | apply HasR.there)))) (by rfl) rfl rfl rfl ?_; conv => whnf)
            refine (pick_spec _ okx.seq (by omega) (by omega)).mono ?_
            rintro _ s' ⟨h, rfl⟩
            rw [h]
            clear h s'
            conv => whnf
            have el : IntKind.i64.wrap (IntKind.i64.wrap (y.last + 1) + x.seq % 300) = y.last + 1 + x.seq % 300 := by rw [wi64 (n := y.last + 1) (by omega) (by omega), wi64 (by omega) (by omega)]
            rw [el]
            (refine hp.load (by repeat (first | exact Has.here | apply Has.there | (apply Has.swap; repeat (first | exact HasR.here | apply HasR.there)))) (by rfl) rfl rfl rfl ?_; conv => whnf)
            refine hp.bytesOf Try.underlying9 Try.underlying32 Try.underlying5 x.body ?_
            clear hp
            intro bt s hp _
            conv => whnf
            have hxb := okx.body
            refine hp.callO (few_spec hp.wf (hp.blkSl (n := (bs x.body).length) (m := (by repeat (first | exact Has.here | apply Has.there | (apply Has.swap; repeat (first | exact HasR.here | apply HasR.there))) : Has (blkA bt bt (byteVals (bs x.body)) 1) _ _)) (by rw [byteVals_length]; omega)) (by omega) 30) ?_
            clear hp
            intro w3 κ3 s hp _
            conv => whnf
            refine Om.of _ (string_sl (src := 32) (dst := 9) Try.underlying32 Try.underlying9 Try.underlying5 (hp.slF (κ := κ3) (v := w3) .here)) ?_
            conv => whnf
            have hm : (bs (⟨((bs x.body).take 30).toArray⟩ : ByteArray)).length ≤ 30 := by rw [bs_mk]; simp; omega
            generalize (⟨((bs x.body).take 30).toArray⟩ : ByteArray) = w at hm ⊢
            obtain ⟨ha1, ha2, ha3⟩ := appR_eq oy1 y.ro ⟨y.last + 1 + x.seq % 300, w⟩
            obtain ⟨b1, b2, b3, b4⟩ := appF_ro y.σ y.ro ⟨y.last + 1 + x.seq % 300, w⟩ (by omega) oy6
            refine append_spec hp (ro := y.ro) (kr := y.kr) (br := y.br) (κ := y.κ) (v := y.v) (σ := y.σ) (ks := ks) (kb := kb) (by repeat (first | exact Rm.here | apply Rm.there)) (by repeat (first | exact Rm.here | apply Rm.there)) (by repeat (first | exact Rm.here | apply Rm.there)) (by omega) (by omega) (by omega) (by omega) ⟨y.last + 1 + x.seq % 300, w⟩ (by show (bs w).length ≤ _; omega) ?_
            clear hp
            intro v5 κ5 s hp
            conv => whnf
            refine rappend_spec hp (ro := y.ro) (kr := y.dr) (br := y.db) (κ := y.κd) (v := y.vd) (τ := y.τ) (ks := ksd) (kb := kbd) (by repeat (first | exact Rm.here | apply Rm.there)) (by repeat (first | exact Rm.here | apply Rm.there)) (by repeat (first | exact Rm.here | apply Rm.there)) (by repeat (first | exact Rm.here | apply Rm.there)) (by rw [oy1.b]; omega) (by omega) (by omega) (by omega) (by omega) ⟨y.last + 1 + x.seq % 300, w⟩ (by show (bs w).length ≤ _; omega) ?_
            clear hp
            intro v6 κ6 s hp
            rw [ha1]
            rw [ha2] at hp
            conv => whnf
            refine Br.no (bne_self_eq_false' ..) ?_
            conv => whnf
            exact ⟨rfl, ⟨y.last + 1 + x.seq % 300, (appF y.σ y.ro ⟨y.last + 1 + x.seq % 300, w⟩).2.2, (appF y.σ y.ro ⟨y.last + 1 + x.seq % 300, w⟩).2.1, (appR y.τ y.ro ⟨y.last + 1 + x.seq % 300, w⟩).2.1, y.kr, y.br, κ5, v5, y.dr, y.db, κ6, v6⟩, ⟨ha3, by (show (appF y.σ y.ro ⟨y.last + 1 + x.seq % 300, w⟩).2.1.b.length = 260); rw [appF_len]; exact oy2, by (show (appF y.σ y.ro ⟨y.last + 1 + x.seq % 300, w⟩).2.2.at_ = A); rw [b1, oy3], by (show (appF y.σ y.ro ⟨y.last + 1 + x.seq % 300, w⟩).2.2.size = Z); rw [b2, oy4], by (show (appF y.σ y.ro ⟨y.last + 1 + x.seq % 300, w⟩).2.2.used ≤ Z); omega, b4, by (show 0 ≤ y.last + 1 + x.seq % 300); omega, by (show y.last + 1 + x.seq % 300 ≤ _); push_cast; omega⟩, hp.pik (by repeat (first | exact Pik.nil | exact Pik.refl _ | exact Rm.here | apply Rm.there | apply Pik.cons | apply Pik.skip)), subK_ok ⟨rfl, rfl, rfl, rfl, rfl, rfl, rfl, rfl, rfl, rfl, trivial⟩⟩
    clear hp oy1 oy2 oy3 oy4 oy5 oy6 oy7 oy8
    rintro e L' s ⟨rfl, y, ⟨oy1, oy2, oy3, oy4, oy5, oy6, oy7, oy8⟩, hp, hsub⟩
    refine Sm.weak _ hsub ?_
    clear hsub
    unfold L7 at hp
    refine Sm.seqW ?_
    conv => whnf
    refine ⟨[0, 1, 0, 4, 12, 28, 63, 127, 255, 511, 1023, 511, 4095, 8191, 16383], by decide +kernel, by decide +kernel, ?_⟩
    conv => whnf
    refine hp.rst.callO (records_spec hp.rst (ro := y.ro) (κ := y.κ) (v := y.v) (kr := y.kr) (br := y.br) (by repeat (first | exact Has.here | apply Has.there | (apply Has.swap; repeat (first | exact HasR.here | apply HasR.there)))) (hp.rst.slF (by repeat (first | exact Rm.here | apply Rm.there))) (by omega)) ?_
    intro v5 κ5 s1 h1 k1
    conv => whnf
    refine hp.dkN h1 k1 ?_
    clear hp h1 k1
    intro s hp
    conv => whnf
    (refine hp.load (by repeat (first | exact Has.here | apply Has.there | (apply Has.swap; repeat (first | exact HasR.here | apply HasR.there)))) (by rfl) rfl rfl rfl ?_; conv => whnf)
    refine (same7_spec _ (hp.rst.slF (κ := κ5) (v := v5) (by repeat (first | exact Rm.here | apply Rm.there))) (hp.rst.slF (κ := y.κd) (v := y.vd) (by repeat (first | exact Rm.here | apply Rm.there))) (by omega)).mono ?_
    rintro _ s' ⟨h, rfl⟩
    rw [h]
    clear h s'
    conv => whnf
    refine hp.dkS ?_
    conv => whnf
    repeat (refine Br.no rfl ?_; conv => whnf)
    refine (left_spec hp.rst (ro := y.ro) (v := y.v) (kr := y.kr) (br := y.br) (by repeat (first | exact Has.here | apply Has.there | (apply Has.swap; repeat (first | exact HasR.here | apply HasR.there)))) (by omega) (by omega)).mono ?_
    rintro _ s' ⟨h, rfl⟩
    rw [h]
    clear h s'
    conv => whnf
    refine hp.dkS ?_
    conv => whnf
    repeat (refine Br.no rfl ?_; conv => whnf)
    refine (rleft_spec hp.rst (ro := y.ro) (v := y.vd) (kr := y.dr) (br := y.db) (by repeat (first | exact Has.here | apply Has.there | (apply Has.swap; repeat (first | exact HasR.here | apply HasR.there)))) (by omega) (by omega)).mono ?_
    rintro _ s' ⟨h, rfl⟩
    rw [h]
    clear h s'
    conv => whnf
    refine hp.dkS ?_
    conv => whnf
    have hne : ((y.ro.size : Int) - (y.ro.used : Int) != (y.ro.size : Int) - (y.ro.used : Int)) = false := by simp
    have hnt : (!true) = false := rfl
    repeat (first | (refine Br.no (by first | with_reducible rfl | exact hne | exact hnt) ?_; conv => whnf))
    refine Sm.ofW ?_
    conv => whnf
    refine Br.no (by first | exact hne | rfl) ?_
    conv => whnf
    refine Sm.ofW ?_
    conv => whnf
    have e6 : IntKind.i64.wrap ((i : Int) + 1) = ((i + 1 : Nat) : Int) := by rw [wi64 (by omega) (by omega)]; omega
    exact ⟨(i + 1, y), by (show l.length - (i + 1) < l.length - i); omega, subK_ok (by refine ⟨rfl, rfl, rfl, rfl, rfl, rfl, rfl, rfl, rfl, congrArg (fun x => some (Value.int .i64 x)) e6, trivial⟩), hc, ⟨oy1, oy2, oy3, oy4, oy5, oy6, oy7, oy8⟩, hp.pik (by repeat (first | exact Pik.nil | exact Pik.refl _ | exact Rm.here | apply Rm.there | apply Pik.cons | apply Pik.skip))⟩
  · conv => whnf
    refine Sm.seqW ?_
    conv => whnf
    refine hp.sRevive (by repeat (first | exact Rm.here | apply Rm.there)) ?_
    clear hp
    intro v5 s hp
    conv => whnf
    refine Sm.live [9, 10] ?_
    conv => whnf
    refine Sm.seqW ?_
    conv => whnf
    have hrd : ({ y.σ with dead := false, limits := false } : SL).read 0 260 = some y.σ.b := by
      rw [SL.read_plainR rfl (by omega) (by omega) (by show (0 : Int) + 260 ≤ (y.σ.b.length : Int); omega)]
      show some ((y.σ.b.drop 0).take 260) = _
      rw [List.drop_zero, List.take_of_length_le (by omega)]
    refine hp.sRead (by repeat (first | exact Has.here | apply Has.there | (apply Has.swap; repeat (first | exact HasR.here | apply HasR.there)))) 0 260 (fun h => by rw [hrd] at h; cases h) ?_
    clear hp
    intro rb v6 κ6 s hrb hp _
    rw [hrd] at hrb
    injection hrb with hrb
    subst hrb
    conv => whnf
    refine Sm.live [10, 20, 21] ?_
    conv => whnf
    refine Sm.seqW ?_
    conv => whnf
    refine ⟨[0, 1, 3, 7, 3, 19, 51, 115, 243, 511, 1023, 2047], by decide +kernel, by decide +kernel, ?_⟩
    conv => whnf
    repeat (first | (refine Br.yes (by first | with_reducible rfl | with_reducible exact beq_self_eq_true _ | rfl) ?_; conv => whnf) | (refine Br.no (by first | with_reducible rfl | with_reducible exact bne_self_eq_false _ | rfl) ?_; conv => whnf))
    refine Om.of _ (string_sl Try.underlying32 Try.underlying9 Try.underlying5 (hp.rst.slF (κ := κ6) (v := v6) (by repeat (first | exact Rm.here | apply Rm.there)))) ?_
    conv => whnf
    refine hp.dkS ?_
    conv => whnf
    repeat (first | (refine Br.yes (by first | with_reducible rfl | with_reducible exact beq_self_eq_true _ | rfl) ?_; conv => whnf) | (refine Br.no (by first | with_reducible rfl | with_reducible exact bne_self_eq_false _ | rfl) ?_; conv => whnf))
    (refine hp.load (by repeat (first | exact Has.here | apply Has.there | (apply Has.swap; repeat (first | exact HasR.here | apply HasR.there)))) (by rfl) rfl rfl rfl ?_; conv => whnf)
    repeat (first | (refine Br.yes (by first | with_reducible rfl | with_reducible exact beq_self_eq_true _ | rfl) ?_; conv => whnf) | (refine Br.no (by first | with_reducible rfl | with_reducible exact bne_self_eq_false _ | rfl) ?_; conv => whnf))
    rw [← oy1.b]
    refine Om.of _ (string_sl Try.underlying32 Try.underlying9 Try.underlying5 (blk_sb (hp.rst.blk (by repeat (first | exact Has.here | apply Has.there | (apply Has.swap; repeat (first | exact HasR.here | apply HasR.there)))) : Blk (reset s) kbd bbd (byteVals y.τ.b) 1))) ?_
    conv => whnf
    refine hp.dkS ?_
    conv => whnf
    repeat (first | (refine Br.yes (by first | with_reducible rfl | with_reducible exact beq_self_eq_true _ | rfl) ?_; conv => whnf) | (refine Br.no (by first | with_reducible rfl | with_reducible exact bne_self_eq_false _ | rfl) ?_; conv => whnf))
    refine Om.of _ (str_eq _ _) ?_
    conv => whnf
    repeat (first | (refine Br.yes (by first | with_reducible rfl | with_reducible exact beq_self_eq_true _ | rfl) ?_; conv => whnf) | (refine Br.no (by first | with_reducible rfl | with_reducible exact bne_self_eq_false _ | rfl) ?_; conv => whnf))
    refine Sm.ofW ?_
    conv => whnf
    exact ⟨congrArg Value.bool (beq_self_eq_true (bs ⟨y.τ.b.toArray⟩))⟩
end Go.Ev
end
