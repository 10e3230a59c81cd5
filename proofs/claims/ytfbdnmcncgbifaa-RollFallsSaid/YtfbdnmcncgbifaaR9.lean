/- Rolls without a program: what is laid down is told. No condition. -/
import Derived.Test.YtfbdnmcncgbifaaR8
noncomputable section
namespace Go.Ev
open Go.Proofs
set_option linter.unusedVariables false
set_option maxRecDepth 100000

theorem SL.read_plainR {σ : SL} {a n : Int} (h1 : σ.dead = false) (h3 : 0 ≤ a) (h4 : 0 ≤ n) (h5 : a + n ≤ σ.b.length) : σ.read a n = some ((σ.b.drop a.toNat).take n.toNat) := by
  have hh : σ.has a n = true := SL.has_iff.2 ⟨h1, h3, by omega, by omega, by omega⟩
  simp [SL.read, hh]
theorem num8_take (h : BitVec 64) : ∀ i, i ≤ 8 → num8 ((bytes8 h).take i) = h.toNat / 2 ^ (64 - 8 * i) := by
  intro i
  have hx := h.isLt
  induction i with
  | zero =>
    intro _
    rw [List.take_zero, Nat.div_eq_of_lt (by simpa using hx)]; rfl
  | succ i ih =>
    intro hi
    have hlt : i < (bytes8 h).length := by rw [bytes8_len]; omega
    have hg : (bytes8 h)[i] = UInt8.ofNat (h.toNat / 2 ^ (56 - 8 * i) % 256) := by simp [bytes8]
    rw [List.take_succ_eq_append_getElem hlt]
    unfold num8
    rw [List.foldl_append]
    show (num8 ((bytes8 h).take i) * 256 + ((bytes8 h)[i]).toNat) % 18446744073709551616 = _
    rw [ih (by omega), hg, toNat_ofNat (Nat.mod_lt _ (by decide))]
    have e1 : 64 - 8 * i = (56 - 8 * i) + 8 := by omega
    have e2 : 64 - 8 * (i + 1) = 56 - 8 * i := by omega
    rw [e1, e2, Nat.pow_add, ← Nat.div_div_eq_div_mul]
    have hle := Nat.div_le_self h.toNat (2 ^ (56 - 8 * i))
    generalize h.toNat / 2 ^ (56 - 8 * i) = y at hle
    omega
theorem num8_bytes8 (h : BitVec 64) : num8 (bytes8 h) = h.toNat := by
  have := num8_take h 8 (Nat.le_refl _)
  rw [List.take_of_length_le (by rw [bytes8_len]; omega)] at this
  simpa using this
theorem bytes8_inj {a b : BitVec 64} (h : bytes8 a = bytes8 b) : a = b := by
  apply BitVec.eq_of_toNat_eq
  rw [← num8_bytes8 a, h, num8_bytes8]
structure Rr.ok (r : Rr) : Prop where
  seq : inR r.seq
  body : (bs r.body).length ≤ 420
theorem seq_back {n : Int} (h : inR n) : IntKind.i64.wrap (num8 (bytes8 (BitVec.ofInt 64 n)) : Int) = n := by
  obtain ⟨h1, h2⟩ := h
  rw [num8_bytes8, BitVec.toNat_ofInt, wrap_i64i]
  split <;> omega
theorem layB_len (r : Rr) : (layB r).length = 9 + (Pk.encI ((bs r.body).length : Int)).length + (bs r.body).length := by
  unfold layB; simp [bytes8_len]; omega
theorem getD_at {l : List UInt8} {i : Nat} {x : UInt8} (h : l[i]? = some x) : l.getD i 0 = x := by
  rw [List.getD_eq_getElem?_getD, h]; rfl
/-- What is laid down is a whole record, whatever is behind it. -/
theorem whole_lay {r : Rr} (ok : r.ok) (at_ : Int) (rest : List UInt8) : wholeF (layF r at_ ++ rest) at_ = some (r, (layF r at_).length) := by
  have hb := ok.body
  have hel := Pk.encI_len (n := ((bs r.body).length : Int)) (by unfold Pk.inR; omega)
  have hep := Pk.encI_pos ((bs r.body).length : Int)
  have hlB := layB_len r
  have hlF := layF_len r at_
  obtain ⟨n, hn⟩ : ∃ n, n = (layB r).length := ⟨_, rfl⟩
  have hn1 : n ≤ 439 := by omega
  have hF : layF r at_ = UInt8.ofNat (128 + n / 128) :: UInt8.ofNat (128 + n % 128) :: (bytes8 (Mk.sum (BitVec.ofInt 64 at_) (layB r)) ++ layB r) := by
    unfold layF
    rw [← hn, Nat.mod_eq_of_lt (show 128 + n / 128 < 256 by omega), Nat.mod_eq_of_lt (show 128 + n % 128 < 256 by omega)]
    rfl
  have hS : (bytes8 (Mk.sum (BitVec.ofInt 64 at_) (layB r))).length = 8 := bytes8_len _
  generalize hSd : bytes8 (Mk.sum (BitVec.ofInt 64 at_) (layB r)) = S at hS hF
  have hlen : (layF r at_).length = 10 + n := by rw [hF]; simp [hS]; omega
  have g0 : (layF r at_ ++ rest).getD 0 0 = UInt8.ofNat (128 + n / 128) := by rw [hF, List.cons_append, List.getD_cons_zero]
  have g1 : (layF r at_ ++ rest).getD 1 0 = UInt8.ofNat (128 + n % 128) := by rw [hF, List.cons_append, List.cons_append, List.getD_cons_succ, List.getD_cons_zero]
  have t0 : (UInt8.ofNat (128 + n / 128)).toNat = 128 + n / 128 := toNat_ofNat (by omega)
  have t1 : (UInt8.ofNat (128 + n % 128)).toNat = 128 + n % 128 := toNat_ofNat (by omega)
  have hnn : (128 + n / 128 - 128) * 128 + (128 + n % 128 - 128) = n := by omega
  have d10 : (layF r at_ ++ rest).drop 10 = layB r ++ rest := by
    rw [hF, List.cons_append, List.cons_append, List.drop_succ_cons, List.drop_succ_cons, List.append_assoc, List.drop_left' hS]
  have g2 : (layF r at_ ++ rest).getD (10 + n - 1) 0 = 255 := by
    apply getD_at
    have : (layF r at_ ++ rest)[10 + (n - 1)]? = ((layF r at_ ++ rest).drop 10)[n - 1]? := by rw [List.getElem?_drop]
    rw [show 10 + n - 1 = 10 + (n - 1) by omega, this, d10, List.getElem?_append_left (by omega)]
    unfold layB
    rw [List.getElem?_append_right (by simp [bytes8_len]; omega)]
    have : n - 1 - (bytes8 (BitVec.ofInt 64 r.seq) ++ Pk.encI ((bs r.body).length : Int) ++ bs r.body).length = 0 := by simp [bytes8_len]; omega
    rw [this]; rfl
  have d18 : ((layF r at_ ++ rest).drop 18).take (n - 9) = Pk.encI ((bs r.body).length : Int) ++ bs r.body := by
    rw [show 18 = 10 + 8 by rfl, ← List.drop_drop, d10]
    unfold layB
    rw [List.append_assoc, List.append_assoc, List.append_assoc, List.drop_left' (bytes8_len _), ← List.append_assoc]
    rw [List.take_left' (by simp; omega)]
  have n8 : ((layF r at_ ++ rest).drop 10).take 8 = bytes8 (BitVec.ofInt 64 r.seq) := by
    rw [d10]
    unfold layB
    rw [List.append_assoc, List.append_assoc, List.append_assoc, List.take_left' (bytes8_len _)]
  have hrt : Pk.readT (Pk.encI ((bs r.body).length : Int) ++ bs r.body) = some (bs r.body, []) := by
    unfold Pk.readT
    rw [Pk.readI_enc (by unfold Pk.inR; omega)]
    simp
  have hll : (layF r at_ ++ rest).length = 10 + n + rest.length := by rw [List.length_append, hlen]
  unfold wholeF
  rw [if_neg (by rw [g0, g1, t0, t1]; omega)]
  simp only [g0, g1, t0, t1, hnn]
  rw [if_neg (by rw [g2]; simp; omega), d18, hrt, n8, seq_back ok.seq]
  simp only [mk_bs]
  rw [if_pos ⟨trivial, by rw [← hlen, List.take_left' rfl]⟩, hlen]
theorem whole_zero {l : List UInt8} (h : l.all (· == 0) = true) (at_ : Int) : wholeF l at_ = none := by
  unfold wholeF
  rw [if_pos]
  cases l with
  | nil => left; simp
  | cons x l =>
    right; left
    simp at h
    rw [h.1]
    show (0 : UInt8).toNat < 128
    decide
/-- Records, one behind the other, from a place on. -/
def layAll : Nat → List Rr → List UInt8
  | _, [] => []
  | u, r :: l => layF r u ++ layAll (u + (layF r u).length) l
theorem layAll_append (u : Nat) (a b : List Rr) : layAll u (a ++ b) = layAll u a ++ layAll (u + (layAll u a).length) b := by
  induction a generalizing u with
  | nil => simp [layAll]
  | cons r a ih =>
    simp only [List.cons_append, layAll, List.append_assoc, List.length_append, ih]
    rw [Nat.add_assoc]
theorem lastF_snoc (l : List Rr) (r : Rr) : lastF (l ++ [r]) = r.seq := by simp [lastF]
/-- Each behind the last. -/
def rises : Int → List Rr → Prop
  | _, [] => True
  | a, r :: l => a < r.seq ∧ rises r.seq l
theorem rises_snoc : ∀ {l : List Rr} {a : Int} {r : Rr}, rises a l → (l = [] → a < r.seq) → (l ≠ [] → lastF l < r.seq) → rises a (l ++ [r])
  | [], a, r, _, h1, _ => ⟨h1 rfl, trivial⟩
  | x :: l, a, r, h, h1, h2 => by
    refine ⟨h.1, rises_snoc h.2 (fun hl => ?_) (fun hl => ?_)⟩
    · subst hl; exact h2 (by simp)
    · have := h2 (by simp)
      have e : lastF (x :: l) = lastF l := by
        unfold lastF
        rw [List.getLast?_cons]
        cases hg : l.getLast? with
        | none => exact absurd (List.getLast?_eq_none_iff.1 hg) hl
        | some y => rfl
      rw [← e]; exact this
/-- What was laid down is told, till there is no whole record. -/
theorem parse_lay : ∀ (L : List Rr) (f u : Nat) (b : List UInt8) (l : List Rr) (rest : List UInt8), (∀ r ∈ L, r.ok) → rises (lastF l) L → b.drop u = layAll u L ++ rest → L.length ≤ f →
    parseL f b u l = parseL (f - L.length) b (u + (layAll u L).length) (l ++ L)
  | [], f, u, b, l, rest, _, _, _, _ => by simp [layAll]
  | r :: L, f, u, b, l, rest, ok, hr, hd, hf => by
    obtain ⟨f, rfl⟩ : ∃ g, f = g + 1 := ⟨f - 1, by simp at hf; omega⟩
    have hw : wholeF (b.drop u) u = some (r, (layF r u).length) := by
      rw [hd]
      show wholeF (layF r u ++ layAll (u + (layF r u).length) L ++ rest) u = _
      rw [List.append_assoc]
      exact whole_lay (ok r (by simp)) _ _
    have hun : parseL (f + 1) b u l = parseL f b (u + (layF r u).length) (l ++ [r]) := by
      show (match wholeF (b.drop u) u with
        | none => (l, u)
        | some (x, n) => if x.seq ≤ lastF l then (l, u) else parseL f b (u + n) (l ++ [x])) = _
      rw [hw]
      simp only
      rw [if_neg (by have := hr.1; omega)]
    rw [hun]
    have hd2 : b.drop (u + (layF r u).length) = layAll (u + (layF r u).length) L ++ rest := by
      rw [← List.drop_drop, hd]
      show (layF r u ++ layAll (u + (layF r u).length) L ++ rest).drop _ = _
      rw [List.append_assoc, List.drop_left' rfl]
    rw [parse_lay L f (u + (layF r u).length) b (l ++ [r]) rest (fun x hx => ok x (by simp [hx])) (by rw [lastF_snoc]; exact hr.2) hd2 (by simp at hf; omega)]
    simp only [layAll, List.length_append, List.length_cons, List.append_assoc, List.singleton_append]
    rw [show f + 1 - (L.length + 1) = f - L.length by omega, Nat.add_assoc]
theorem layF_min (r : Rr) (n : Int) : 20 ≤ (layF r n).length := by
  have := layF_len r n
  have := Pk.encI_pos ((bs r.body).length : Int)
  omega
theorem layAll_min : ∀ (L : List Rr) (u : Nat), L.length * 20 ≤ (layAll u L).length
  | [], u => by simp [layAll]
  | r :: L, u => by
    have := layAll_min L (u + (layF r u).length)
    have := layF_min r u
    simp only [layAll, List.length_append, List.length_cons]
    omega
/-- A region of records, and of zeros. -/
structure Laid (b : List UInt8) (L : List Rr) : Prop where
  ok : ∀ r ∈ L, r.ok
  rises : rises 0 L
  zeros : ∃ n, b = layAll 0 L ++ List.replicate n 0
theorem Laid.parse {b : List UInt8} {L : List Rr} (h : Laid b L) : parseF b = (L, (layAll 0 L).length) := by
  obtain ⟨n, hn⟩ := h.zeros
  have hmin := layAll_min L 0
  have hbl : b.length = (layAll 0 L).length + n := by rw [hn]; simp
  unfold parseF
  rw [parse_lay L (b.length + 1) 0 b [] (List.replicate n 0) h.ok h.rises (by simpa using hn) (by omega)]
  rw [Nat.zero_add, List.nil_append]
  have hdz : b.drop (layAll 0 L).length = List.replicate n 0 := by rw [hn, List.drop_left' rfl]
  obtain ⟨f, hf⟩ : ∃ f, b.length + 1 - L.length = f + 1 := ⟨b.length - L.length, by omega⟩
  rw [hf]
  show (match wholeF (b.drop (layAll 0 L).length) (layAll 0 L).length with
    | none => (L, (layAll 0 L).length)
    | some (x, n) => if x.seq ≤ lastF L then (L, (layAll 0 L).length) else parseL f b ((layAll 0 L).length + n) (L ++ [x])) = _
  rw [hdz, whole_zero (by simp)]
theorem Laid.zero {b : List UInt8} {L : List Rr} (h : Laid b L) (σ : SL) (base : Int) : zeroF σ base (b.drop (layAll 0 L).length) = (σ, true) := by
  obtain ⟨n, hn⟩ := h.zeros
  have hdz : b.drop (layAll 0 L).length = List.replicate n 0 := by rw [hn, List.drop_left' rfl]
  rw [hdz]
  unfold zeroF
  have : (List.replicate n (0 : UInt8)).any (fun c => !(c == 0)) = false := by
    rw [List.any_eq_false]
    intro x hx
    rw [(List.mem_replicate.1 hx).2]; simp
  rw [this]; rfl
/-- A region that holds records and zeros is opened as it is. -/
theorem open_laid {σ : SL} {A Z : Nat} {L : List Rr} (hd : σ.dead = false) (h1 : 32 ≤ Z) (h2 : Z ≤ 8192) (h3 : A + Z ≤ σ.b.length) (h : Laid ((σ.b.drop A).take Z) L) : openF σ A Z = (.ok ⟨A, Z, (layAll 0 L).length, L⟩, σ) := by
  unfold openF
  rw [if_neg (by omega), SL.read_plainR hd (by omega) (by omega) (by omega)]
  simp only [Int.toNat_natCast]
  rw [h.parse, h.zero]
  rfl
end Go.Ev
