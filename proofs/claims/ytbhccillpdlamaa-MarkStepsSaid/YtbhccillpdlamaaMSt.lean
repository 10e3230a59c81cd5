/- A step of mark is one to one in what was there and in its byte; sums of bytes as folds of steps. No condition. -/
import Derived.Laws.BitsLemmas
import Derived.Laws.BitsAllLaws
import Derived.RowKit
namespace Go.Proofs.Ytbhccillpdlamaa.MSt
open Go.RowKit

def st (x c : Int) : Int := IntKind.u64.wrap ((Go.bits .xor .u64 (Go.bits .or .u64 (IntKind.u64.wrap (x * 512)) (x / 36028797018963968)) (IntKind.u64.wrap c)) * 11400714819323198485)
def U (x : Int) : Prop := 0 ≤ x ∧ x < 18446744073709551616
def Y (x : Int) : Prop := 0 ≤ x ∧ x < 256
theorem u64_mod (x : Int) : IntKind.u64.wrap x = x % 18446744073709551616 := by
  unfold IntKind.wrap
  simp only [show IntKind.u64.signed = false from rfl, Bool.false_and, Bool.false_eq_true, if_false, show (2 : Int) ^ IntKind.u64.bits = 18446744073709551616 from rfl]
theorem u64_id {x : Int} (h : U x) : IntKind.u64.wrap x = x := by
  obtain ⟨h0, h1⟩ := h
  rw [u64_mod]; omega
def rot (x : Int) : Int := (x * 512) % 18446744073709551616 + x / 36028797018963968
theorem rot_U {x : Int} (h : U x) : U (rot x) := by
  obtain ⟨h0, h1⟩ := h
  unfold rot U; omega
theorem rot_inj {x y : Int} (hx : U x) (hy : U y) (h : rot x = rot y) : x = y := by
  obtain ⟨h0, h1⟩ := hx
  obtain ⟨h2, h3⟩ := hy
  have e : ∀ z : Int, (z * 512) % 18446744073709551616 = (z % 36028797018963968) * 512 := fun z => by omega
  unfold rot at h
  rw [e, e] at h
  have q1 : 0 ≤ x / 36028797018963968 ∧ x / 36028797018963968 < 512 := by omega
  have q2 : 0 ≤ y / 36028797018963968 ∧ y / 36028797018963968 < 512 := by omega
  have r1 := Int.mul_ediv_add_emod x 36028797018963968
  have r2 := Int.mul_ediv_add_emod y 36028797018963968
  generalize x / 36028797018963968 = a at *
  generalize y / 36028797018963968 = b at *
  generalize x % 36028797018963968 = c at *
  generalize y % 36028797018963968 = d at *
  clear e h0 h1 h2 h3
  omega
theorem or_rot {x : Int} (h : U x) : bits .or .u64 (IntKind.u64.wrap (x * 512)) (x / 36028797018963968) = rot x := by
  obtain ⟨h0, h1⟩ := h
  have e3 := u64_mod (x * 512)
  rw [bits_join .u64 64 (by decide) (fun n h h' => u64_id ⟨h, by simpa using h'⟩) 9 _ _ (by rw [e3]; omega) (by rw [e3]; simp only [Int.reducePow]; omega) (by rw [e3]; simp only [Int.reducePow]; omega) (by omega) (by simp only [Int.reducePow]; omega) (by simp only [Int.reducePow]; omega), e3]
  rfl
theorem xor_nat {x c : Int} (hx : U x) (hc : U c) : bits .xor .u64 x c = ((x.toNat ^^^ c.toNat : Nat) : Int) := by
  have := Go.u64_xor x c hx.1 hx.2 hc.1 hc.2
  exact this
theorem lin {u v q : Int} (hq : u * 11400714819323198485 - v * 11400714819323198485 = 18446744073709551616 * q) : u - v = 18446744073709551616 * (q * 17428512612931826493 - (u - v) * 10771413168148108919) := by
  have h2 : (u * 11400714819323198485 - v * 11400714819323198485) * 17428512612931826493 = 18446744073709551616 * q * 17428512612931826493 := by rw [hq]
  grind
theorem mul_inj {u v : Int} (hu : U u) (hv : U v) (h : (u * 11400714819323198485) % 18446744073709551616 = (v * 11400714819323198485) % 18446744073709551616) : u = v := by
  obtain ⟨h0, h1⟩ := hu
  obtain ⟨h2, h3⟩ := hv
  obtain ⟨q, hq⟩ := Int.dvd_of_emod_eq_zero (Int.emod_eq_emod_iff_emod_sub_eq_zero.1 h)
  have := lin hq
  generalize q * 17428512612931826493 - (u - v) * 10771413168148108919 = t at this
  clear h hq
  omega
theorem xor_U {x c : Int} (hx : U x) (hc : U c) : U (bits .xor .u64 x c) := by
  rw [xor_nat hx hc]
  obtain ⟨h0, h1⟩ := hx
  obtain ⟨h2, h3⟩ := hc
  have : x.toNat ^^^ c.toNat < 2 ^ 64 := Nat.xor_lt_two_pow (by omega) (by omega)
  unfold U; omega
theorem xor_left {x y c : Int} (hx : U x) (hy : U y) (hc : U c) (h : bits .xor .u64 x c = bits .xor .u64 y c) : x = y := by
  rw [xor_nat hx hc, xor_nat hy hc] at h
  have h' : x.toNat ^^^ c.toNat = y.toNat ^^^ c.toNat := by omega
  have e : ∀ a b : Nat, (a ^^^ b) ^^^ b = a := fun a b => by rw [Nat.xor_assoc, Nat.xor_self, Nat.xor_zero]
  have : x.toNat = y.toNat := by rw [← e x.toNat c.toNat, h', e]
  have := hx.1; have := hy.1
  omega
theorem xor_right {x c d : Int} (hx : U x) (hc : U c) (hd : U d) (h : bits .xor .u64 x c = bits .xor .u64 x d) : c = d := by
  rw [xor_nat hx hc, xor_nat hx hd] at h
  have h' : x.toNat ^^^ c.toNat = x.toNat ^^^ d.toNat := by omega
  have e : ∀ a b : Nat, a ^^^ (a ^^^ b) = b := fun a b => by rw [← Nat.xor_assoc, Nat.xor_self, Nat.zero_xor]
  have : c.toNat = d.toNat := by rw [← e x.toNat c.toNat, h', e]
  have := hc.1; have := hd.1
  omega
theorem Y.u {c : Int} (h : Y c) : U c := ⟨h.1, by have := h.2; omega⟩
theorem st_eq {x c : Int} (hx : U x) (hc : Y c) : st x c = (bits .xor .u64 (rot x) c * 11400714819323198485) % 18446744073709551616 := by
  unfold st
  rw [or_rot hx, u64_id hc.u, u64_mod]
theorem st_U {x c : Int} : U (st x c) := by
  unfold st; rw [u64_mod]; unfold U; omega
theorem st_left {x y c : Int} (hx : U x) (hy : U y) (hc : Y c) (h : st x c = st y c) : x = y := by
  rw [st_eq hx hc, st_eq hy hc] at h
  exact rot_inj hx hy (xor_left (rot_U hx) (rot_U hy) hc.u (mul_inj (xor_U (rot_U hx) hc.u) (xor_U (rot_U hy) hc.u) h))
theorem st_right {x c d : Int} (hx : U x) (hc : Y c) (hd : Y d) (h : st x c = st x d) : c = d := by
  rw [st_eq hx hc, st_eq hx hd] at h
  exact xor_right (rot_U hx) hc.u hd.u (mul_inj (xor_U (rot_U hx) hc.u) (xor_U (rot_U hx) hd.u) h)
/-- Steps by bytes, one behind the other. -/
def run (x : Int) : List Int → Int
  | [] => x
  | c :: l => run (st x c) l
theorem run_U {x : Int} (hx : U x) : ∀ l, U (run x l)
  | [] => hx
  | c :: l => run_U (x := st x c) st_U l
theorem run_app (l m : List Int) : ∀ x, run x (l ++ m) = run (run x l) m := by
  induction l with
  | nil => intro x; rfl
  | cons c l ih => intro x; exact ih _
theorem run_inj : ∀ (l : List Int), (∀ c ∈ l, Y c) → ∀ {x y : Int}, U x → U y → run x l = run y l → x = y
  | [], _, _, _, _, _, h => h
  | c :: l, hl, _, _, hx, hy, h =>
    st_left hx hy (hl c (List.mem_cons_self ..)) (run_inj l (fun d hd => hl d (List.mem_cons_of_mem _ hd)) st_U st_U h)
theorem Y255 : Y 255 := by unfold Y; omega
def sum (x : Int) (l : List Int) : Int := st (run x l) 255
theorem sum_seed {l : List Int} (hl : ∀ c ∈ l, Y c) {x y : Int} (hx : U x) (hy : U y) : (sum x l = sum y l) ↔ x = y :=
  ⟨fun h => run_inj l hl hx hy (st_left (run_U hx l) (run_U hy l) Y255 h), fun h => by rw [h]⟩
theorem sum_set {l : List Int} (hl : ∀ c ∈ l, Y c) {x : Int} (hx : U x) {p : Nat} (hp : p < l.length) {c : Int} (hc : Y c) : (sum x (l.set p c) = sum x l) ↔ c = l[p] := by
  have e1 : l.set p c = l.take p ++ c :: l.drop (p + 1) := by
    rw [List.set_eq_take_append_cons_drop, if_pos hp]
  have e2 : l = l.take p ++ l[p] :: l.drop (p + 1) := by
    rw [List.getElem_cons_drop, List.take_append_drop]
  have hd : ∀ d ∈ l.drop (p + 1), Y d := fun d h => hl d (List.mem_of_mem_drop h)
  have hx' := run_U hx (l.take p)
  have hlp : Y l[p] := hl _ (List.getElem_mem hp)
  constructor
  · intro h
    have h1 := st_left (run_U hx _) (run_U hx _) Y255 h
    rw [e1] at h1
    have h2 : run x l = run (run x (l.take p)) (l[p] :: l.drop (p + 1)) := by
      conv => lhs; rw [e2]
      exact run_app _ _ _
    rw [run_app, h2] at h1
    exact st_right hx' hc hlp (run_inj _ hd st_U st_U h1)
  · intro h
    rw [h, List.set_getElem_self]
end Go.Proofs.Ytbhccillpdlamaa.MSt
