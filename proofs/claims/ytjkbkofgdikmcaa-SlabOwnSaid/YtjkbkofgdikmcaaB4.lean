/- Slabs without a program; what 'known' says. No condition. -/
import Derived.Test.YtjkbkofgdikmcaaB3
noncomputable section
namespace Go.Ev
open Go.Proofs
set_option linter.unusedVariables false
set_option maxRecDepth 100000

theorem putB_get {b l : List UInt8} {i : Nat} (h : i + l.length ≤ b.length) (k : Nat) : (putB b i l)[k]? = if k < i then b[k]? else if k < i + l.length then l[k - i]? else b[k]? := by
  unfold putB
  by_cases h1 : k < i
  · rw [if_pos h1, List.getElem?_append_left (by simp; omega), List.getElem?_append_left (by simp; omega), List.getElem?_take, if_pos h1]
  · rw [if_neg h1]
    by_cases h2 : k < i + l.length
    · rw [if_pos h2, List.getElem?_append_left (by simp; omega), List.getElem?_append_right (by simp; omega)]
      congr 1; simp; omega
    · rw [if_neg h2, List.getElem?_append_right (by simp; omega), List.getElem?_drop]
      congr 1; simp; omega
theorem putB_comm {b x y : List UInt8} {i j : Nat} (h : i + x.length ≤ j) (h2 : j + y.length ≤ b.length) : putB (putB b i x) j y = putB (putB b j y) i x := by
  apply List.ext_getElem?
  intro k
  have l1 := putB_length b i x (by omega)
  have l2 := putB_length b j y (by omega)
  rw [putB_get (by omega), putB_get (by omega), putB_get (by omega), putB_get (by omega)]
  repeat' split
  all_goals first | rfl | omega
theorem putB_back {b l : List UInt8} {i : Nat} (h : i + l.length ≤ b.length) : ((putB b i l).drop i).take l.length = l := by
  apply List.ext_getElem?
  intro k
  rw [List.getElem?_take]
  split
  · rename_i hk
    rw [List.getElem?_drop, putB_get h, if_neg (by omega), if_pos (by omega)]
    congr 1; omega
  · rename_i hk
    rw [List.getElem?_eq_none (by omega)]
theorem SL.write_plain {σ : SL} {a : Int} {l : List UInt8} (h1 : σ.dead = false) (h2 : σ.limits = false) (h3 : 0 ≤ a) (h4 : a + l.length ≤ σ.b.length) :
    σ.write a l = ({ σ with writes := IntKind.i64.wrap (σ.writes + 1), left := IntKind.i64.wrap (σ.left - 1), b := putB σ.b a.toNat l }, true) := by
  have hh : σ.has a l.length = true := SL.has_iff.2 ⟨h1, h3, by omega, by omega, by omega⟩
  simp only [SL.write, hh, if_true, h2]
  simp
theorem SL.read_plain {σ : SL} {a n : Int} (h1 : σ.dead = false) (h3 : 0 ≤ a) (h4 : 0 ≤ n) (h5 : a + n ≤ σ.b.length) : σ.read a n = some ((σ.b.drop a.toNat).take n.toNat) := by
  have hh : σ.has a n = true := SL.has_iff.2 ⟨h1, h3, by omega, by omega, by omega⟩
  simp [SL.read, hh]
theorem SlabAt.ptr {s : St} {p : Value} {ks kb : Nat} {σ : SL} (h : SlabAt s p ks kb σ) : ∃ bs, p = .pointer (some ⟨bs, 0, none⟩) := by
  obtain ⟨bs, bb, rfl, _⟩ := h.ex
  exact ⟨bs, rfl⟩
theorem sknown_spec {s : St} (wf : WF s) : Cw Try.prog 15 [] s fun r s' => r = .bool true ∧ K0 s s' := by
  refine Cw.enterS Try.func15 rfl rfl ?_
  refine Sm.seqW ?_
  conv => whnf
  refine Sm.seqW ?_
  conv => whnf
  refine (new_spec wf 2).mono ?_
  rintro p s1 ⟨k1, ks, kb, n1, n2, h1⟩
  obtain ⟨bs, rfl⟩ := h1.ptr
  conv => whnf
  refine Sm.seqW ?_
  conv => whnf
  refine Om.of (.bool false) rfl ?_
  conv => whnf
  refine Br.no rfl ?_
  conv => whnf
  refine Sm.weak [(1, .pointer (some ⟨bs, 0, none⟩))] (.cons rfl (Sub.nil _)) ?_
  refine Sm.seqW ?_
  conv => whnf
  refine (cut_spec k1.wf h1 0 1).mono ?_
  rintro r2 s2 ⟨k2, h2⟩
  have K2 := k1.touch k2 (fun k hk => by subst hk; exact n1)
  conv => whnf
  refine Sm.weak [(1, .pointer (some ⟨bs, 0, none⟩))] (.cons rfl (Sub.nil _)) ?_
  refine Sm.seqW ?_
  conv => whnf
  obtain ⟨k3, o3⟩ := lit_bytes K2.wf [7, 8]
  refine Om.of (.slice (some ⟨s2.next, 0, none⟩) 2 2, s2.new (byteVals [7, 8]) 1) rfl ?_
  conv => whnf
  have l2 := h2.lt K2.wf
  refine (write_spec k3.wf (h2.keep0 k3) 0 (l := [7, 8]) o3.sl (fun k hk => by injection hk with hk; omega)).mono ?_
  rintro r4 s4 ⟨k4, rfl, h4⟩
  have K4 := (K2.then k3).touch k4 (fun k hk => by rcases hk with rfl | rfl <;> assumption)
  conv => whnf
  refine Sm.weak [(1, .pointer (some ⟨bs, 0, none⟩)), (2, .bool false)] (.cons rfl (.cons rfl (Sub.nil _))) ?_
  refine Sm.seqW ?_
  conv => whnf
  refine (dead_spec h4).mono ?_
  rintro r5 s5 ⟨rfl, rfl⟩
  conv => whnf
  refine Sm.weak [(1, .pointer (some ⟨bs, 0, none⟩)), (2, .bool false), (3, .bool true)] (.cons rfl (.cons rfl (.cons rfl (Sub.nil _)))) ?_
  refine Sm.seqW ?_
  conv => whnf
  refine (revive_spec K4.wf h4).mono ?_
  rintro r6 s6 ⟨k6, h6⟩
  have K6 := K4.touch k6 (fun k hk => by subst hk; exact n1)
  conv => whnf
  refine Sm.seqW ?_
  conv => whnf
  refine (read_spec K6.wf h6 0 2).mono ?_
  rintro r7 s7 ⟨k7, ⟨hr, _⟩ | ⟨l, v, hr, rfl, o7⟩⟩
  · exact absurd hr (by decide +kernel)
  obtain rfl : l = [7, 0] := by
    have : ∀ x, x = some l → x = some [7, 0] → l = [7, 0] := fun x a b => by rw [a] at b; injection b
    exact this _ hr (by decide +kernel)
  conv => whnf
  refine Sm.weak [(1, .pointer (some ⟨bs, 0, none⟩)), (2, .bool false), (3, .bool true), (4, v), (5, .bool true)] (.cons rfl (.cons rfl (.cons rfl (.cons rfl (.cons rfl (Sub.nil _)))))) ?_
  refine Sm.ofW ?_
  conv => whnf
  repeat (first | (refine Br.yes rfl ?_; conv => whnf) | (refine Br.no rfl ?_; conv => whnf))
  refine Om.of _ (ob_str o7) ?_
  conv => whnf
  repeat (first | (refine Br.yes rfl ?_; conv => whnf) | (refine Br.no rfl ?_; conv => whnf))
  refine Om.of (.bool true) rfl ?_
  conv => whnf
  repeat (first | (refine Br.yes rfl ?_; conv => whnf) | (refine Br.no rfl ?_; conv => whnf))
  refine (dead_spec (h6.keep0 k7)).mono ?_
  rintro r8 s8 ⟨rfl, rfl⟩
  conv => whnf
  repeat (first | (refine Br.yes rfl ?_; conv => whnf) | (refine Br.no rfl ?_; conv => whnf))
  exact ⟨⟨rfl, K6.then k7⟩⟩
end Go.Ev
