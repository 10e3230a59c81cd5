/- Rolls without a program: a write that is torn, openings that fall. No condition. -/
import Derived.Test.YtfbdnmcncgbifaaR12
noncomputable section
namespace Go.Ev
open Go.Proofs
set_option linter.unusedVariables false
set_option maxRecDepth 100000

/-- Bytes that begin with no whole record. -/
def NoRec (Q : List UInt8) (u : Nat) : Prop := Q = [] ∨ Q[0]? = some 0 ∨ ∃ r : Rr, r.ok ∧ ∃ t n : Nat, t < (layF r (u : Int)).length ∧ Q = (layF r (u : Int)).take t ++ List.replicate n 0
theorem getD_none {l : List UInt8} {i : Nat} (h : l[i]? = none) : l.getD i 0 = 0 := by rw [List.getD_eq_getElem?_getD, h]; rfl
theorem NoRec.whole {Q : List UInt8} {u : Nat} (h : NoRec Q u) : wholeF Q u = none := by
  rcases h with rfl | h | ⟨r, ok, t, n, ht, rfl⟩
  · unfold wholeF; rw [if_pos (.inl (by simp))]
  · unfold wholeF
    rw [if_pos]
    right; left
    rw [getD_at h]; decide
  · have hb := ok.body
    have hel := Pk.encI_len (n := ((bs r.body).length : Int)) (by unfold Pk.inR; omega)
    have hlB := layB_len r
    obtain ⟨N, hN⟩ : ∃ N, N = (layB r).length := ⟨_, rfl⟩
    have hF : layF r u = UInt8.ofNat (128 + N / 128) :: UInt8.ofNat (128 + N % 128) :: (bytes8 (Mk.sum (BitVec.ofInt 64 u) (layB r)) ++ layB r) := by
      unfold layF
      rw [← hN, Nat.mod_eq_of_lt (show 128 + N / 128 < 256 by omega), Nat.mod_eq_of_lt (show 128 + N % 128 < 256 by omega)]
      rfl
    have hlen : (layF r u).length = 10 + N := by rw [layF_G, layG_len, hN]
    have hz : ∀ i, t ≤ i → ((layF r (u : Int)).take t ++ List.replicate n 0).getD i 0 = 0 := by
      intro i hi
      by_cases hq : i < ((layF r (u : Int)).take t ++ List.replicate n 0).length
      · apply getD_at
        rw [List.getElem?_append_right (by simp; omega), List.getElem?_replicate]
        rw [if_pos]
        simp at hq ⊢; omega
      · exact getD_none (List.getElem?_eq_none (by omega))
    have hz0 : (0 : UInt8).toNat = 0 := rfl
    by_cases h0 : t = 0
    · unfold wholeF
      rw [if_pos]
      right; left
      rw [hz 0 (by omega)]; decide
    by_cases h1 : t = 1
    · unfold wholeF
      rw [if_pos]
      right; right
      rw [hz 1 (by omega)]; decide
    obtain ⟨m, rfl⟩ : ∃ m, t = m + 2 := ⟨t - 2, by omega⟩
    have hQ : (layF r (u : Int)).take (m + 2) ++ List.replicate n 0 = UInt8.ofNat (128 + N / 128) :: UInt8.ofNat (128 + N % 128) :: ((bytes8 (Mk.sum (BitVec.ofInt 64 u) (layB r)) ++ layB r).take m ++ List.replicate n 0) := by rw [hF]; rfl
    have g0 : ((layF r (u : Int)).take (m + 2) ++ List.replicate n 0).getD 0 0 = UInt8.ofNat (128 + N / 128) := by rw [hQ, List.getD_cons_zero]
    have g1 : ((layF r (u : Int)).take (m + 2) ++ List.replicate n 0).getD 1 0 = UInt8.ofNat (128 + N % 128) := by rw [hQ, List.getD_cons_succ, List.getD_cons_zero]
    have t0 : (UInt8.ofNat (128 + N / 128)).toNat = 128 + N / 128 := toNat_ofNat (by omega)
    have t1 : (UInt8.ofNat (128 + N % 128)).toNat = 128 + N % 128 := toNat_ofNat (by omega)
    have hnn : (128 + N / 128 - 128) * 128 + (128 + N % 128 - 128) = N := by omega
    have g2 := hz (10 + N - 1) (by omega)
    generalize (layF r (u : Int)).take (m + 2) ++ List.replicate n 0 = Q at g0 g1 g2
    unfold wholeF
    split
    · rfl
    · simp only [g0, g1, t0, t1, hnn]
      rw [if_pos]
      right; right
      rw [g2]; decide
/-- A region: records, and behind them no whole one. -/
structure Falls (σ : SL) (A Z : Nat) (L : List Rr) : Prop where
  fits : A + Z ≤ σ.b.length
  ok : ∀ r ∈ L, r.ok
  rises : rises 0 L
  ex : ∃ Q, (σ.b.drop A).take Z = layAll 0 L ++ Q ∧ NoRec Q (layAll 0 L).length
theorem Falls.of_b {σ τ : SL} {A Z : Nat} {L : List Rr} (h : Falls σ A Z L) (e : τ.b = σ.b) : Falls τ A Z L := ⟨by rw [e]; exact h.fits, h.ok, h.rises, by rw [e]; exact h.ex⟩
theorem norec_zeros (n u : Nat) : NoRec (List.replicate n 0) u := by
  cases n with
  | zero => exact .inl rfl
  | succ n => exact .inr (.inl rfl)
theorem RollOk.falls {σ : SL} {ro : RO} (h : RollOk σ ro) : Falls σ ro.at_ ro.size ro.l := ⟨h.fits, h.laid.ok, h.laid.rises, by
  obtain ⟨n, hn⟩ := h.laid.zeros
  exact ⟨_, hn, norec_zeros _ _⟩⟩
theorem Falls.parse {σ : SL} {A Z : Nat} {L : List Rr} (h : Falls σ A Z L) : parseF ((σ.b.drop A).take Z) = (L, (layAll 0 L).length) := by
  obtain ⟨Q, hQ, hn⟩ := h.ex
  generalize (σ.b.drop A).take Z = b at hQ
  have hmin := layAll_min L 0
  have hbl : (layAll 0 L).length ≤ b.length := by rw [hQ]; simp
  unfold parseF
  rw [parse_lay L (b.length + 1) 0 b [] _ h.ok h.rises (by simpa using hQ) (by omega)]
  rw [Nat.zero_add, List.nil_append]
  obtain ⟨f, hf⟩ : ∃ f, b.length + 1 - L.length = f + 1 := ⟨b.length - L.length, by omega⟩
  rw [hf]
  show (match wholeF (b.drop (layAll 0 L).length) (layAll 0 L).length with
    | none => (L, (layAll 0 L).length)
    | some (x, n) => if x.seq ≤ lastF L then (L, (layAll 0 L).length) else parseL f b ((layAll 0 L).length + n) (L ++ [x])) = _
  rw [hQ, List.drop_left' rfl, hn.whole]
/-- A write, torn or not, of a slab that lives. -/
theorem SL.write_or {σ : SL} {a : Nat} {l : List UInt8} (h1 : σ.dead = false) (h4 : a + l.length ≤ σ.b.length) :
    ((σ.write a l).2 = true ∧ (σ.write a l).1.dead = false ∧ (σ.write a l).1.b = putB σ.b a l) ∨
    ((σ.write a l).2 = false ∧ (σ.write a l).1.dead = true ∧ ∃ t, t ≤ l.length ∧ (σ.write a l).1.b = putB σ.b a (l.take t)) := by
  have hh : σ.has a l.length = true := SL.has_iff.2 ⟨h1, by omega, by omega, by omega, by omega⟩
  unfold SL.write
  rw [if_pos hh]
  split
  · exact .inr ⟨rfl, rfl, (max 0 (min σ.torn l.length)).toNat, by omega, by simp⟩
  · exact .inl ⟨rfl, h1, by simp⟩
/-- What zeroing does: some bytes, from the first on, are 0; all, if it is not cut. -/
theorem zeroL_to (base len : Nat) : ∀ (f at_ : Nat) (σ : SL), σ.dead = false → base + len ≤ σ.b.length → at_ ≤ len → len - at_ < f →
    ∃ z, z ≤ len - at_ ∧ (zeroL f σ base at_ len).1.b.length = σ.b.length ∧ (∀ k, (zeroL f σ base at_ len).1.b[k]? = if base + at_ ≤ k ∧ k < base + at_ + z then some 0 else σ.b[k]?) ∧
      ((zeroL f σ base at_ len).2 = true → z = len - at_ ∧ (zeroL f σ base at_ len).1.dead = false)
  | 0, at_, σ, h1, h2, h3, h4 => by omega
  | f + 1, at_, σ, h1, h2, h3, h4 => by
    unfold zeroL
    split
    · rename_i hlt
      have hw := SL.write_or (σ := σ) (a := base + at_) (l := List.replicate (min 32 (len - at_)) 0) h1 (by simp; omega)
      have ec : ((base + at_ : Nat) : Int) = (base : Int) + (at_ : Int) := by push_cast; rfl
      rw [ec] at hw
      rcases hw with ⟨w1, w2, w3⟩ | ⟨w1, w2, t, w3, w4⟩
      · rw [if_pos w1]
        generalize (σ.write ((base : Int) + (at_ : Int)) (List.replicate (min 32 (len - at_)) 0)).1 = τ at w2 w3
        have hlen : τ.b.length = σ.b.length := by rw [w3, putB_length _ _ _ (by simp; omega)]
        have hget : ∀ k, τ.b[k]? = if base + at_ ≤ k ∧ k < base + at_ + min 32 (len - at_) then some 0 else σ.b[k]? := by
          intro k
          rw [w3, putB_getR (by simp; omega)]
          simp only [List.length_replicate]
          by_cases c1 : k < base + at_
          · rw [if_pos c1, if_neg (by omega)]
          · rw [if_neg c1]
            by_cases c2 : k < base + at_ + min 32 (len - at_)
            · rw [if_pos c2, if_pos (by omega), List.getElem?_replicate, if_pos (by omega)]
            · rw [if_neg c2, if_neg (by omega)]
        by_cases hend : at_ + 32 ≤ len
        · obtain ⟨z, z1, z2, z3, z4⟩ := zeroL_to base len f (at_ + 32) τ w2 (by omega) hend (by omega)
          refine ⟨z + 32, by omega, by omega, fun k => ?_, fun h => ⟨by have := (z4 h).1; omega, (z4 h).2⟩⟩
          rw [z3, hget]
          by_cases c1 : base + (at_ + 32) ≤ k ∧ k < base + (at_ + 32) + z
          · rw [if_pos c1, if_pos (by omega)]
          · rw [if_neg c1]
            by_cases c2 : base + at_ ≤ k ∧ k < base + at_ + min 32 (len - at_)
            · rw [if_pos c2, if_pos (by omega)]
            · rw [if_neg c2, if_neg (by omega)]
        · have hstop : zeroL f τ base (at_ + 32) len = (τ, true) := by
            cases f with
            | zero => rfl
            | succ f => unfold zeroL; rw [if_neg (by omega)]
          rw [hstop]
          refine ⟨len - at_, Nat.le_refl _, hlen, fun k => ?_, fun _ => ⟨rfl, w2⟩⟩
          rw [hget]
          simp only [show min 32 (len - at_) = len - at_ by omega]
      · rw [if_neg (by rw [w1]; decide)]
        generalize (σ.write ((base : Int) + (at_ : Int)) (List.replicate (min 32 (len - at_)) 0)).1 = τ at w2 w4
        rw [List.length_replicate] at w3
        have htk : (List.replicate (min 32 (len - at_)) (0 : UInt8)).take t = List.replicate t 0 := by rw [List.take_replicate]; congr 1; omega
        rw [htk] at w4
        refine ⟨t, by omega, by rw [w4, putB_length _ _ _ (by simp; omega)], fun k => ?_, fun h => by cases h⟩
        rw [w4, putB_getR (by simp; omega)]
        simp only [List.length_replicate]
        by_cases c1 : k < base + at_
        · rw [if_pos c1, if_neg (by omega)]
        · rw [if_neg c1]
          by_cases c2 : k < base + at_ + t
          · rw [if_pos c2, if_pos (by omega), List.getElem?_replicate, if_pos (by omega)]
          · rw [if_neg c2, if_neg (by omega)]
    · exact ⟨0, Nat.zero_le _, rfl, fun k => by rw [if_neg (by omega)], fun _ => ⟨by omega, h1⟩⟩
/-- An opening, that falls or not. -/
theorem Falls.open {σ : SL} {A Z : Nat} {L : List Rr} (h : Falls σ A Z L) (h1 : 32 ≤ Z) (h2 : Z ≤ 8192) :
    (∃ σ', openF σ A Z = (.ok ⟨A, Z, (layAll 0 L).length, L⟩, σ') ∧ RollOk σ' ⟨A, Z, (layAll 0 L).length, L⟩ ∧ σ'.b.length = σ.b.length) ∨ (∃ σ', openF σ A Z = (.down, σ') ∧ Falls σ' A Z L ∧ σ'.b.length = σ.b.length) := by
  have hfits := h.fits
  have hparse := h.parse
  obtain ⟨Q, hQ, hn⟩ := h.ex
  have hql : (layAll 0 L).length + Q.length = Z := by
    have := congrArg List.length hQ
    simp at this; omega
  unfold openF
  rw [if_neg (by omega)]
  cases hd : σ.dead with
  | true =>
    have : σ.read A Z = none := by
      unfold SL.read
      rw [if_neg]
      intro hh
      have := (SL.has_iff.1 hh).1
      rw [hd] at this; cases this
    rw [this]
    exact .inr ⟨σ, rfl, h, rfl⟩
  | false =>
    rw [SL.read_plainR hd (by omega) (by omega) (by omega)]
    simp only [Int.toNat_natCast]
    rw [hparse]
    simp only
    have hdrop : ((σ.b.drop A).take Z).drop (layAll 0 L).length = Q := by rw [hQ, List.drop_left' rfl]
    rw [hdrop]
    unfold zeroF
    split
    · rename_i hany
      have ec : ((A : Int) + ((layAll 0 L).length : Int)) = ((A + (layAll 0 L).length : Nat) : Int) := by push_cast; rfl
      rw [ec]
      obtain ⟨z, z1, z2, z3, z4⟩ := zeroL_to (A + (layAll 0 L).length) Q.length (Q.length + 1) 0 σ hd (by omega) (Nat.zero_le _) (by omega)
      generalize zeroL (Q.length + 1) σ ((A + (layAll 0 L).length : Nat) : Int) 0 Q.length = q at z2 z3 z4
      obtain ⟨σ', o⟩ := q
      simp only at z2 z3 z4
      have hreg : (σ'.b.drop A).take Z = layAll 0 L ++ (List.replicate z 0 ++ Q.drop z) := by
        apply List.ext_getElem?
        intro k
        rw [reg_get, z3]
        have hq2 : ∀ k, (if k < Z then σ.b[A + k]? else none) = (layAll 0 L ++ Q)[k]? := fun k => by rw [← hQ, reg_get]
        by_cases c1 : k < (layAll 0 L).length
        · rw [List.getElem?_append_left c1, if_pos (by omega), if_neg (by omega)]
          have := hq2 k
          rw [if_pos (by omega), List.getElem?_append_left c1] at this
          exact this
        · rw [List.getElem?_append_right (by omega)]
          by_cases c2 : k - (layAll 0 L).length < z
          · rw [List.getElem?_append_left (by simpa using c2), List.getElem?_replicate, if_pos c2, if_pos (by omega), if_pos (by omega)]
          · rw [List.getElem?_append_right (by simp; omega), List.length_replicate, List.getElem?_drop]
            have := hq2 k
            rw [List.getElem?_append_right (by omega)] at this
            rw [show z + (k - (layAll 0 L).length - z) = k - (layAll 0 L).length by omega, ← this]
            split
            · rw [if_neg (by omega)]
            · rfl
      cases o with
      | true =>
        left
        have hz := z4 rfl
        refine ⟨σ', rfl, ⟨hz.2, by show A + Z ≤ _; omega, rfl, by show (layAll 0 L).length ≤ Z; omega, h.ok, h.rises, z, ?_⟩, z2⟩
        show (σ'.b.drop A).take Z = _
        rw [hreg, List.drop_of_length_le (by omega), List.append_nil]
      | false =>
        right
        refine ⟨σ', rfl, ⟨by omega, h.ok, h.rises, _, hreg, ?_⟩, z2⟩
        cases z with
        | zero => exact hn
        | succ z => exact .inr (.inl rfl)
    · rename_i hany
      left
      refine ⟨σ, rfl, ⟨hd, hfits, rfl, by show (layAll 0 L).length ≤ Z; omega, h.ok, h.rises, Q.length, ?_⟩, rfl⟩
      show (σ.b.drop A).take Z = _
      rw [hQ]
      congr 1
      rw [List.eq_replicate_iff]
      refine ⟨rfl, fun x hx => ?_⟩
      have := List.any_eq_false.1 (Bool.eq_false_iff.2 hany) x hx
      simpa using this
/-- A slab that was revived lets each opening through. -/
theorem Falls.open_ok {σ : SL} {A Z : Nat} {L : List Rr} (h : Falls σ A Z L) (hd : σ.dead = false) (hl : σ.limits = false) (h1 : 32 ≤ Z) (h2 : Z ≤ 8192) :
    ∃ σ', openF σ A Z = (.ok ⟨A, Z, (layAll 0 L).length, L⟩, σ') ∧ RollOk σ' ⟨A, Z, (layAll 0 L).length, L⟩ ∧ σ'.b.length = σ.b.length := by
  rcases h.open h1 h2 with g | ⟨σ', g, _⟩
  · exact g
  · have := (open_apart (A := A) (Z := Z) hd hl h1 h2 h.fits).1
    rw [g] at this; cases this
/-- A record is appended, or the slab falls. -/
theorem RollOk.append_or {σ : SL} {A Z : Nat} {L : List Rr} (h : RollOk σ ⟨A, Z, (layAll 0 L).length, L⟩) {r : Rr} (ok : r.ok) (hs : lastF L < r.seq) (hroom : (layAll 0 L).length + (layF r ((layAll 0 L).length : Nat)).length ≤ Z) :
    (∃ σ', appF σ ⟨A, Z, (layAll 0 L).length, L⟩ r = (.ok, σ', ⟨A, Z, (layAll 0 (L ++ [r])).length, L ++ [r]⟩) ∧ RollOk σ' ⟨A, Z, (layAll 0 (L ++ [r])).length, L ++ [r]⟩ ∧ σ'.b.length = σ.b.length) ∨
    (∃ σ', appF σ ⟨A, Z, (layAll 0 L).length, L⟩ r = (.down, σ', ⟨A, Z, (layAll 0 L).length, L⟩) ∧ (Falls σ' A Z L ∨ Falls σ' A Z (L ++ [r])) ∧ σ'.b.length = σ.b.length) := by
  have hb := ok.body
  have hfits : A + Z ≤ σ.b.length := h.fits
  have hL2 : (layAll 0 (L ++ [r])).length = (layAll 0 L).length + (layF r ((layAll 0 L).length : Nat)).length := by
    rw [layAll_append, List.length_append]; simp [layAll]
  have hA : ∀ t, (putB σ.b (A + (layAll 0 L).length) ((layF r ((layAll 0 L).length : Nat)).take t)).length = σ.b.length := fun t => putB_length _ _ _ (by simp; omega)
  obtain ⟨n, hn⟩ := h.laid.zeros
  have hn : (σ.b.drop A).take Z = layAll 0 L ++ List.replicate n 0 := hn
  have hnl : (layAll 0 L).length + n = Z := by
    have := congrArg List.length hn
    simp at this; omega
  have hreg : ∀ t, t ≤ (layF r ((layAll 0 L).length : Nat)).length → ((putB σ.b (A + (layAll 0 L).length) ((layF r ((layAll 0 L).length : Nat)).take t)).drop A).take Z = layAll 0 L ++ ((layF r ((layAll 0 L).length : Nat)).take t ++ List.replicate (n - t) 0) := by
    intro t ht
    rw [reg_put hfits (by simp; omega), hn, put_zeros _ _ _ (by simp; omega), List.append_assoc]
    congr 3
    simp; omega
  have hcs : ∀ x ∈ L ++ [r], x.ok := fun x hx => by
    rcases List.mem_append.1 hx with g | g
    · exact h.laid.ok x g
    · rw [List.mem_singleton] at g; subst g; exact ok
  have hcr : Go.Ev.rises 0 (L ++ [r]) := rises_snoc h.laid.rises (fun hl => by have : L = [] := hl; subst this; exact hs) (fun _ => hs)
  unfold appF
  have hc : ¬ (r.seq ≤ lastF L ∨ 420 < (bs r.body).length) := by omega
  simp only
  rw [if_neg hc, if_neg (by omega)]
  have ec : ((A : Int) + ((layAll 0 L).length : Int)) = ((A + (layAll 0 L).length : Nat) : Int) := by push_cast; rfl
  rw [ec]
  rcases SL.write_or (σ := σ) (a := A + (layAll 0 L).length) (l := layF r ((layAll 0 L).length : Nat)) h.dead (by omega) with ⟨w1, w2, w3⟩ | ⟨w1, w2, t, w3, w4⟩
  · left
    rw [if_pos w1, ← hL2]
    generalize (σ.write ((A + (layAll 0 L).length : Nat) : Int) (layF r ((layAll 0 L).length : Nat))).1 = τ at w2 w3
    have hr := hreg (layF r ((layAll 0 L).length : Nat)).length (Nat.le_refl _)
    have hl := hA (layF r ((layAll 0 L).length : Nat)).length
    rw [List.take_length] at hr hl
    refine ⟨τ, rfl, ⟨w2, by show A + Z ≤ _; rw [w3]; omega, rfl, by show (layAll 0 (L ++ [r])).length ≤ Z; omega, hcs, hcr, n - (layF r ((layAll 0 L).length : Nat)).length, ?_⟩, by rw [w3]; exact hl⟩
    show (τ.b.drop A).take Z = _
    rw [w3, hr, layAll_append]
    simp only [layAll, List.append_nil, Nat.zero_add, List.append_assoc]
  · right
    rw [if_neg (by rw [w1]; decide)]
    generalize (σ.write ((A + (layAll 0 L).length : Nat) : Int) (layF r ((layAll 0 L).length : Nat))).1 = τ at w2 w4
    have hr := hreg t w3
    refine ⟨τ, rfl, ?_, by rw [w4]; exact hA t⟩
    by_cases ht : t < (layF r ((layAll 0 L).length : Nat)).length
    · left
      exact ⟨by rw [w4]; rw [hA t]; exact hfits, h.laid.ok, h.laid.rises, _, by rw [w4]; exact hr, .inr (.inr ⟨r, ok, t, _, ht, rfl⟩)⟩
    · right
      refine ⟨by rw [w4]; rw [hA t]; exact hfits, hcs, hcr, List.replicate (n - t) 0, ?_, norec_zeros _ _⟩
      rw [w4, hr, List.take_of_length_le (by omega), layAll_append]
      simp only [layAll, List.append_nil, Nat.zero_add, List.append_assoc]
end Go.Ev
