/- Chains without a program: a text with one byte turned leads to another head. No condition. -/
import Derived.Test.YtjkbkofgdikmcaaC11
noncomputable section
namespace Go.Ev
open Go.Proofs
set_option linter.unusedVariables false
set_option maxRecDepth 100000

theorem rot_back (h : BitVec 64) : (((h <<< 9) ||| (h >>> 55)) >>> 9) ||| (((h <<< 9) ||| (h >>> 55)) <<< 55) = h := by
  ext i hi
  simp only [BitVec.getElem_or, BitVec.getElem_ushiftRight, BitVec.getElem_shiftLeft, BitVec.getLsbD_or, BitVec.getLsbD_shiftLeft, BitVec.getLsbD_ushiftRight]
  by_cases h1 : i < 55
  · have e1 : (9 + i < 64) := by omega
    have e2 : ¬ (9 + i < 9) := by omega
    have e3 : 9 + i - 9 = i := by omega
    have e4 : h.getLsbD (55 + (9 + i)) = false := BitVec.getLsbD_of_ge _ _ (by omega)
    simp [h1, e1, e2, e3, e4, BitVec.getLsbD_eq_getElem hi]
  · have e1 : ¬ (9 + i < 64) := by omega
    have e2 : (i - 55 < 9) := by omega
    have e4 : 55 + (i - 55) = i := by omega
    have e5 : h.getLsbD (55 + (9 + i)) = false := BitVec.getLsbD_of_ge _ _ (by omega)
    simp [h1, e1, e2, e4, e5, BitVec.getLsbD_eq_getElem hi]
theorem rot_inj {a b : BitVec 64} (h : (a <<< 9) ||| (a >>> 55) = (b <<< 9) ||| (b >>> 55)) : a = b := by
  rw [← rot_back a, h, rot_back b]
theorem mul_k_inj {a b : BitVec 64} (h : a * 11400714819323198485#64 = b * 11400714819323198485#64) : a = b := by
  have h2 := congrArg (fun x => x * 17428512612931826493#64) h
  simp only [BitVec.mul_assoc] at h2
  rw [show 11400714819323198485#64 * 17428512612931826493#64 = 1#64 by decide] at h2
  simpa using h2
theorem xor_r_inj {a b c : BitVec 64} (h : a ^^^ c = b ^^^ c) : a = b := by
  have h2 := congrArg (fun x => x ^^^ c) h
  simpa [BitVec.xor_assoc] using h2
theorem step_inj {h g : BitVec 64} {c : UInt8} (e : Mk.step h c = Mk.step g c) : h = g := rot_inj (xor_r_inj (mul_k_inj e))
theorem step_ne {h : BitVec 64} {c d : UInt8} (e : Mk.step h c = Mk.step h d) : c = d := by
  have h1 := mul_k_inj e
  have h2 : BitVec.ofNat 64 c.toNat = BitVec.ofNat 64 d.toNat := by
    have := congrArg (fun x => ((h <<< 9) ||| (h >>> 55)) ^^^ x) h1
    simpa [← BitVec.xor_assoc] using this
  have h3 := congrArg BitVec.toNat h2
  have hc := c.toNat_lt
  have hd := d.toNat_lt
  simp only [BitVec.toNat_ofNat] at h3
  apply UInt8.toNat_inj.1
  omega
theorem steps_inj (l : List UInt8) : ∀ {h g : BitVec 64}, l.foldl Mk.step h = l.foldl Mk.step g → h = g := by
  induction l with
  | nil => intro h g e; exact e
  | cons c l ih => intro h g e; exact step_inj (ih e)
theorem sum_inj {h g : BitVec 64} {l : List UInt8} (e : Mk.sum h l = Mk.sum g l) : h = g := steps_inj l (step_inj e)
theorem sum_turn {h : BitVec 64} {a b : List UInt8} {c d : UInt8} (e : Mk.sum h (a ++ c :: b) = Mk.sum h (a ++ d :: b)) : c = d := by
  unfold Mk.sum at e
  have e2 := step_inj e
  rw [List.foldl_append, List.foldl_append] at e2
  exact step_ne (steps_inj b e2)
theorem links_inj (l : List Rc) : ∀ {h g : BitVec 64}, l.foldl linkF h = l.foldl linkF g → h = g := by
  induction l with
  | nil => intro h g e; exact e
  | cons c l ih => intro h g e; exact sum_inj (ih e)
/-- One byte of a text is another one. -/
def turnT (t : ByteArray) (j : Nat) (c : UInt8) : ByteArray := ⟨((bs t).set j c).toArray⟩
theorem bs_turn (t : ByteArray) (j : Nat) (c : UInt8) : bs (turnT t j c) = (bs t).set j c := bs_mk _
theorem link_turn {h : BitVec 64} {r : Rc} {j : Nat} {c : UInt8} (hj : j < (bs r.text).length) (e : linkF h { r with text := turnT r.text j c } = linkF h r) : c = (bs r.text)[j] := by
  unfold linkF Rc.bytes at e
  simp only [bs_turn, List.length_set] at e
  have h1 : (bs r.text).set j c = (bs r.text).take j ++ c :: (bs r.text).drop (j + 1) := by rw [List.set_eq_take_append_cons_drop, if_pos hj]
  have h2 : bs r.text = (bs r.text).take j ++ (bs r.text)[j] :: (bs r.text).drop (j + 1) := by
    rw [← List.drop_eq_getElem_cons hj, List.take_append_drop]
  generalize hX : Pk.encI r.who ++ Pk.encI r.verb ++ Pk.encI r.what ++ Pk.encI ((bs r.text).length : Int) = X at e
  rw [h1] at e
  have e3 : Mk.sum h ((X ++ (bs r.text).take j) ++ c :: (bs r.text).drop (j + 1)) = Mk.sum h ((X ++ (bs r.text).take j) ++ (bs r.text)[j] :: (bs r.text).drop (j + 1)) := by
    rw [List.append_assoc, List.append_assoc, ← h2]; exact e
  exact sum_turn e3
/-- A chain one of whose kept texts has one byte turned is not right. -/
theorem right_turn {c : Ch} (hr : rightF c = true) {k : Nat} (hk : k < c.last.length) {j : Nat} {b : UInt8} (hj : j < (bs c.last[k].text).length) (hb : b ≠ (bs c.last[k].text)[j]) :
    rightF { c with last := c.last.set k { c.last[k] with text := turnT c.last[k].text j b } } = false := by
  have key : ((c.last.set k { c.last[k] with text := turnT c.last[k].text j b }).foldl linkF c.base) ≠ c.head := by
    intro e
    have h0 : (c.last.foldl linkF c.base) = c.head := by
      unfold rightF at hr
      simp only [Bool.and_eq_true, beq_iff_eq] at hr
      exact BitVec.eq_of_toNat_eq (by exact_mod_cast hr.1)
    rw [← h0, List.set_eq_take_append_cons_drop, if_pos hk, List.foldl_append, List.foldl_cons] at e
    have h2 : c.last.foldl linkF c.base = (c.last.drop (k + 1)).foldl linkF (linkF ((c.last.take k).foldl linkF c.base) c.last[k]) := by
      conv => lhs; rw [← List.take_append_drop k c.last, List.drop_eq_getElem_cons hk, List.foldl_append, List.foldl_cons]
    rw [h2] at e
    exact hb (link_turn hj (links_inj _ e))
  unfold rightF
  have : (((c.last.set k { c.last[k] with text := turnT c.last[k].text j b }).foldl linkF c.base).toNat : Int) ≠ (c.head.toNat : Int) := by
    intro e
    exact key (BitVec.eq_of_toNat_eq (by exact_mod_cast e))
  simp only [beq_eq_false_iff_ne.2 this, Bool.false_and]
end Go.Ev
