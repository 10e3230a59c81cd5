/- What the functions of slab do: the small ones. No condition. -/
import Derived.Test.YtfbdnmcncgbifaaB2
noncomputable section
namespace Go.Ev
open Go.Proofs
set_option linter.unusedVariables false
set_option maxRecDepth 100000

theorem cut_spec {s : St} (wf : WF s) {p : Value} {ks kb : Nat} {σ : SL} (h : SlabAt s p ks kb σ) (n torn : Int) :
    Cw Try.prog 18 [p, .int .i64 n, .int .i64 torn] s fun r s' => Kp (fun j => j = ks) s s' ∧ SlabAt s' p ks kb { σ with left := n, torn := torn, limits := decide (n ≥ 0) } := by
  obtain ⟨bs, bb, rfl, g1, g2⟩ := h.ex
  have hne := h.ne
  refine Cw.enter Try.func18 rfl rfl ?_
  conv => whnf
  refine Om.of (.bool true) rfl ?_
  conv => whnf
  refine Br.yes rfl ?_
  conv => whnf
  obtain ⟨s1, e1, k1, f1⟩ := store_cell (P := Try.prog) (t := 3) rfl rfl wf g1 (off := 0 + 1) (v := .int .i64 n) (by simp [slabCells]) rfl rfl
  refine Om.of s1 e1 ?_
  conv => whnf
  obtain ⟨s2, e2, k2, f2⟩ := store_cell (P := Try.prog) (t := 3) rfl rfl k1.wf f1 (off := 0 + 2) (v := .int .i64 torn) (by simp [slabCells]) rfl rfl
  refine Om.of s2 e2 ?_
  conv => whnf
  obtain ⟨s3, e3, k3, f3⟩ := store_cell (P := Try.prog) (t := 4) rfl rfl k2.wf f2 (off := 0 + 5) (v := .bool (decide (n ≥ 0))) (by simp [slabCells]) rfl rfl
  refine Om.of s3 e3 ?_
  conv => whnf
  have k := (k1.then k2).then k3
  exact ⟨⟨k, hne, h.len, bs, bb, rfl, f3, k.blk _ _ _ _ (fun hh => hne hh.symm) g2⟩⟩
theorem revive_spec {s : St} (wf : WF s) {p : Value} {ks kb : Nat} {σ : SL} (h : SlabAt s p ks kb σ) :
    Cw Try.prog 19 [p] s fun r s' => Kp (fun j => j = ks) s s' ∧ SlabAt s' p ks kb { σ with dead := false, limits := false } := by
  obtain ⟨bs, bb, rfl, g1, g2⟩ := h.ex
  have hne := h.ne
  refine Cw.enter Try.func19 rfl rfl ?_
  conv => whnf
  refine Om.of (.bool true) rfl ?_
  conv => whnf
  refine Br.yes rfl ?_
  conv => whnf
  obtain ⟨s1, e1, k1, f1⟩ := store_cell (P := Try.prog) (t := 4) rfl rfl wf g1 (off := 0 + 4) (v := .bool false) (by simp [slabCells]) rfl rfl
  refine Om.of s1 e1 ?_
  conv => whnf
  obtain ⟨s2, e2, k2, f2⟩ := store_cell (P := Try.prog) (t := 4) rfl rfl k1.wf f1 (off := 0 + 5) (v := .bool false) (by simp [slabCells]) rfl rfl
  refine Om.of s2 e2 ?_
  conv => whnf
  have k := k1.then k2
  exact ⟨⟨k, hne, h.len, bs, bb, rfl, f2, k.blk _ _ _ _ (fun hh => hne hh.symm) g2⟩⟩
theorem size_spec {s : St} {p : Value} {ks kb : Nat} {σ : SL} (h : SlabAt s p ks kb σ) : Cw Try.prog 28 [p] s fun r s' => s' = s ∧ r = .int .i64 (σ.b.length : Int) := by
  obtain ⟨bs, bb, rfl, g1, g2⟩ := h.ex
  refine Cw.enter Try.func28 rfl rfl ?_
  conv => whnf
  refine Om.of (.bool false) rfl ?_
  conv => whnf
  refine Br.no rfl ?_
  conv => whnf
  refine Om.of _ (load_cell Try.underlying32 rfl rfl g1.rd rfl) ?_
  conv => whnf
  exact ⟨⟨rfl, rfl⟩⟩
end Go.Ev
