/- Numbers as bytes, without a program: what is packed is read, and the other way. No condition. -/
import Derived.Test.YtfbdnmcncgbifaaS4
noncomputable section
namespace Go.Ev.Pk
open Go.Ev

def encF : Nat → Nat → List UInt8
  | 0, _ => []
  | f + 1, u => if u < 128 then [UInt8.ofNat u] else UInt8.ofNat (u % 128 + 128) :: encF f (u / 128)
def encU (u : Nat) : List UInt8 := encF (u + 1) u
theorem encF_eq : ∀ (f g u : Nat), u < f → u < g → encF f u = encF g u
  | 0, _, _, h, _ => by omega
  | _, 0, _, _, h => by omega
  | f + 1, g + 1, u, h, h' => by
    unfold encF
    split
    · rfl
    · rw [encF_eq f g (u / 128) (by omega) (by omega)]
theorem encU_eq (u : Nat) : encU u = if u < 128 then [UInt8.ofNat u] else UInt8.ofNat (u % 128 + 128) :: encU (u / 128) := by
  conv => lhs; unfold encU encF
  split
  · rfl
  · rw [encF_eq u (u / 128 + 1) (u / 128) (by omega) (by omega)]; rfl
theorem encU_len : ∀ (k u : Nat), u < 128 ^ (k + 1) → (encU u).length ≤ k + 1
  | k, u, h => by
    rw [encU_eq]
    split
    · simp
    · cases k with
      | zero => rename_i g; simp at h; omega
      | succ k =>
        have := encU_len k (u / 128) (by rw [Nat.pow_succ] at h; omega)
        simp; omega
theorem encU_pos (u : Nat) : 0 < (encU u).length := by
  rw [encU_eq]; split <;> simp

/-- What is read: from byte k on, with 'acc' so far. -/
def readL : Nat → Nat → List UInt8 → Option (Nat × List UInt8)
  | _, _, [] => none
  | k, acc, c :: r => if (k = 9 ∧ 1 < c.toNat) ∨ (c.toNat < 128 ∧ c.toNat = 0 ∧ 0 < k) then none else
    if c.toNat < 128 then some (acc + c.toNat * 2 ^ (7 * k), r) else readL (k + 1) (acc + c.toNat % 128 * 2 ^ (7 * k)) r
theorem pow7 (k : Nat) : 2 ^ (7 * (k + 1)) = 128 * 2 ^ (7 * k) := by
  rw [Nat.mul_add, Nat.pow_add]; omega
theorem read_enc : ∀ (f k acc u : Nat) (r : List UInt8), u < f → u * 2 ^ (7 * k) < 2 ^ 64 → k ≤ 9 → (k = 0 ∨ 0 < u) → readL k acc (encU u ++ r) = some (acc + u * 2 ^ (7 * k), r)
  | 0, _, _, _, _, h, _, _, _ => by omega
  | f + 1, k, acc, u, r, h, h2, h3, h4 => by
    have h9 : k = 9 → u < 2 := by
      rintro rfl
      have : (2 : Nat) ^ 64 = 2 * 2 ^ (7 * 9) := by decide
      rw [this] at h2
      exact Nat.lt_of_mul_lt_mul_right h2
    rw [encU_eq]
    split
    · rename_i g
      have e : (UInt8.ofNat u).toNat = u := toNat_ofNat (by omega)
      rw [List.singleton_append, readL, e, if_neg (by omega), if_pos g]
    · rename_i g
      have e : (UInt8.ofNat (u % 128 + 128)).toNat = u % 128 + 128 := toNat_ofNat (by omega)
      have hk : k ≠ 9 := fun e => by have := h9 e; omega
      rw [List.cons_append, readL, e, if_neg (by omega), if_neg (by omega)]
      have hdm : u / 128 * 2 ^ (7 * (k + 1)) + u % 128 * 2 ^ (7 * k) = u * 2 ^ (7 * k) := by
        rw [pow7, ← Nat.mul_assoc, ← Nat.add_mul]
        congr 1
        omega
      rw [read_enc f (k + 1) _ (u / 128) r (by omega) (by omega) (by omega) (by omega)]
      congr 2
      have : (u % 128 + 128) % 128 = u % 128 := by omega
      rw [this]
      omega
theorem read_dec : ∀ (l : List UInt8) (k acc t : Nat) (r : List UInt8), k ≤ 9 → readL k acc l = some (t, r) → ∃ u, l = encU u ++ r ∧ t = acc + u * 2 ^ (7 * k) ∧ u * 2 ^ (7 * k) < 2 ^ 64 ∧ (k = 0 ∨ 0 < u)
  | [], _, _, _, _, _, h => by simp [readL] at h
  | c :: l, k, acc, t, r, h9, h => by
    unfold readL at h
    split at h
    · cases h
    · rename_i g
      have hc := c.toNat_lt
      have hof : UInt8.ofNat c.toNat = c := by simp
      have hb : ∀ x, x ≤ 127 → (k = 9 → x ≤ 1) → x * 2 ^ (7 * k) < 2 ^ 64 := by
        intro x hx hx9
        by_cases hk : k = 9
        · subst hk
          have := hx9 rfl
          have e : (2 : Nat) ^ 64 = 2 * 2 ^ (7 * 9) := by decide
          rw [e]
          exact Nat.mul_lt_mul_of_pos_right (by omega) (Nat.two_pow_pos _)
        · have : (2 : Nat) ^ (7 * k) ≤ 2 ^ (7 * 8) := Nat.pow_le_pow_right (by omega) (by omega)
          have e : (128 : Nat) * 2 ^ (7 * 8) ≤ 2 ^ 64 := by decide
          calc x * 2 ^ (7 * k) < 128 * 2 ^ (7 * k) := Nat.mul_lt_mul_of_pos_right (by omega) (Nat.two_pow_pos _)
            _ ≤ 128 * 2 ^ (7 * 8) := Nat.mul_le_mul_left _ this
            _ ≤ 2 ^ 64 := e
      split at h
      · rename_i g2
        injection h with h
        injection h with h1 h2
        subst h1 h2
        refine ⟨c.toNat, ?_, rfl, hb _ (by omega) (by omega), by omega⟩
        rw [encU_eq, if_pos g2, hof]; rfl
      · rename_i g2
        have hk : k ≠ 9 := by omega
        obtain ⟨u, h1, h2, h3, h4⟩ := read_dec l (k + 1) _ t r (by omega) h
        have hu : 0 < u := by omega
        have hdm : (u * 128 + c.toNat % 128) * 2 ^ (7 * k) = u * 2 ^ (7 * (k + 1)) + c.toNat % 128 * 2 ^ (7 * k) := by
          rw [pow7, Nat.add_mul, Nat.mul_assoc]
        refine ⟨u * 128 + c.toNat % 128, ?_, ?_, ?_, by omega⟩
        · rw [encU_eq, if_neg (by omega)]
          have e1 : (u * 128 + c.toNat % 128) % 128 + 128 = c.toNat := by omega
          have e2 : (u * 128 + c.toNat % 128) / 128 = u := by omega
          rw [e1, e2, hof, h1]; rfl
        · rw [hdm, h2]; omega
        · rw [hdm]
          by_cases hk9 : k + 1 = 9
          · have e : k = 8 := by omega
            subst e
            have hu2 : u < 2 := by
              have e : (2 : Nat) ^ 64 = 2 * 2 ^ (7 * (8 + 1)) := by decide
              rw [e] at h3
              exact Nat.lt_of_mul_lt_mul_right h3
            have h56 : (2 : Nat) ^ (7 * 8) = 72057594037927936 := by decide
            have h63 : (2 : Nat) ^ (7 * (8 + 1)) = 9223372036854775808 := by decide
            have h64 : (2 : Nat) ^ 64 = 18446744073709551616 := by decide
            rw [h56, h63, h64]
            have hc128 : c.toNat % 128 < 128 := Nat.mod_lt _ (by omega)
            clear h1 h3 hdm h9 hk hk9 h4 hu hof g hb h56 h63 h64
            generalize c.toNat % 128 = x at hc128 ⊢
            omega
          · have h7 : k ≤ 7 := by omega
            have hp : (2 : Nat) ^ 64 = 2 ^ (7 * (k + 1)) * 2 ^ (64 - 7 * (k + 1)) := by rw [← Nat.pow_add]; congr 1; omega
            have hlt : u < 2 ^ (64 - 7 * (k + 1)) := by
              rw [hp, Nat.mul_comm] at h3
              exact Nat.lt_of_mul_lt_mul_left h3
            have hx : c.toNat % 128 * 2 ^ (7 * k) < 2 ^ (7 * (k + 1)) := by
              rw [pow7]
              exact Nat.mul_lt_mul_of_pos_right (by omega) (Nat.two_pow_pos _)
            calc u * 2 ^ (7 * (k + 1)) + c.toNat % 128 * 2 ^ (7 * k) < u * 2 ^ (7 * (k + 1)) + 2 ^ (7 * (k + 1)) := by omega
              _ = (u + 1) * 2 ^ (7 * (k + 1)) := by rw [Nat.add_mul, Nat.one_mul]
              _ ≤ 2 ^ (64 - 7 * (k + 1)) * 2 ^ (7 * (k + 1)) := Nat.mul_le_mul_right _ (by omega)
              _ = 2 ^ 64 := by rw [hp, Nat.mul_comm]

/-- Signed ones. -/
def zig (n : Int) : Nat := if 0 ≤ n then (2 * n).toNat else (-2 * n - 1).toNat
def unzig (t : Nat) : Int := if t % 2 = 0 then ((t / 2 : Nat) : Int) else -1 - ((t / 2 : Nat) : Int)
abbrev inR (n : Int) : Prop := -9223372036854775808 ≤ n ∧ n < 9223372036854775808
theorem zig_lt {n : Int} (h : inR n) : zig n < 18446744073709551616 := by unfold zig; obtain ⟨h1, h2⟩ := h; split <;> omega
theorem unzig_zig (n : Int) : unzig (zig n) = n := by unfold zig unzig; split <;> split <;> omega
theorem zig_unzig (t : Nat) : zig (unzig t) = t := by unfold unzig; split <;> (unfold zig; split <;> omega)
theorem unzig_in {t : Nat} (h : t < 18446744073709551616) : inR (unzig t) := by unfold inR unzig; split <;> omega
def encI (n : Int) : List UInt8 := encU (zig n)
def readI (l : List UInt8) : Option (Int × List UInt8) := (readL 0 0 l).map fun p => (unzig p.1, p.2)
theorem readI_enc {n : Int} (h : inR n) (r : List UInt8) : readI (encI n ++ r) = some (n, r) := by
  have := zig_lt h
  unfold readI encI
  rw [read_enc (zig n + 1) 0 0 (zig n) r (by omega) (by simpa using this) (by omega) (.inl rfl)]
  simp [unzig_zig]
theorem readI_dec {l r : List UInt8} {n : Int} (h : readI l = some (n, r)) : l = encI n ++ r ∧ inR n := by
  unfold readI at h
  cases hr : readL 0 0 l with
  | none => rw [hr] at h; cases h
  | some p =>
    obtain ⟨t, r'⟩ := p
    rw [hr] at h
    injection h with h
    injection h with h1 h2
    obtain ⟨u, g1, g2, g3, _⟩ := read_dec l 0 0 t r' (by omega) hr
    simp only [Nat.mul_zero, Nat.pow_zero, Nat.mul_one, Nat.zero_add] at g2 g3
    subst g2
    simp only at h1 h2
    subst h1 h2
    exact ⟨by unfold encI; rw [zig_unzig]; exact g1, unzig_in g3⟩
theorem encI_len {n : Int} (h : inR n) : (encI n).length ≤ 10 := encU_len 9 _ (Nat.lt_of_lt_of_le (zig_lt h) (by decide))
theorem encI_inj {n m : Int} (h1 : inR n) (h2 : inR m) (h : encI n = encI m) : n = m := by
  have a := readI_enc h1 []
  have b := readI_enc h2 []
  rw [h, b] at a
  injection a with a
  injection a with a
  exact a.symm
/-- A number's bytes that are cut are none. -/
theorem readI_cut {n : Int} (h : inR n) {k : Nat} (hk : k < (encI n).length) : readI ((encI n).take k) = none := by
  cases hr : readI ((encI n).take k) with
  | none => rfl
  | some p =>
    obtain ⟨m, r⟩ := p
    obtain ⟨g1, g2⟩ := readI_dec hr
    have e : encI n = encI m ++ (r ++ (encI n).drop k) := by rw [← List.append_assoc, ← g1, List.take_append_drop]
    have a := readI_enc h []
    rw [List.append_nil, e, readI_enc g2] at a
    injection a with a
    injection a with _ a
    have : (r ++ (encI n).drop k).length = 0 := by rw [a]; rfl
    simp at this
    omega
theorem encU_mono : ∀ (f a b : Nat), a < f → b ≤ a → (encU b).length ≤ (encU a).length
  | 0, _, _, h, _ => by omega
  | f + 1, a, b, h, hab => by
    rw [encU_eq b, encU_eq a]
    split <;> split
    · simp
    · simp
    · omega
    · have := encU_mono f (a / 128) (b / 128) (by omega) (by omega)
      simp; omega
theorem encI_mono {n m : Int} (h0 : 0 ≤ n) (h : n ≤ m) : (encI n).length ≤ (encI m).length := by
  refine encU_mono (zig m + 1) _ _ (by omega) ?_
  unfold zig
  rw [if_pos h0, if_pos (by omega)]
  omega
theorem encI_pos (n : Int) : 0 < (encI n).length := encU_pos _
end Go.Ev.Pk
