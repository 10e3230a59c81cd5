/- What the functions of slab do. No condition. -/
import Derived.Test.YtfbdnmcncgbifaaH1
noncomputable section
namespace Go.Ev
open Go.Proofs
set_option linter.unusedVariables false
set_option maxRecDepth 100000

/-- A slab, without a program. -/
structure SL where
  b : List UInt8
  left : Int
  torn : Int
  writes : Int
  dead : Bool
  limits : Bool
def SL.has (σ : SL) (at_ n : Int) : Bool := !σ.dead && (decide (at_ ≥ 0) && (decide (n ≥ 0) && (decide (at_ ≤ (σ.b.length : Int)) && decide (n ≤ (σ.b.length : Int) - at_))))
def putB (b : List UInt8) (i : Nat) (l : List UInt8) : List UInt8 := b.take i ++ l ++ b.drop (i + l.length)
def SL.write (σ : SL) (at_ : Int) (l : List UInt8) : SL × Bool :=
  if σ.has at_ l.length = true then
    (if σ.limits = true ∧ σ.left = 0 then ({ σ with writes := IntKind.i64.wrap (σ.writes + 1), b := putB σ.b at_.toNat (l.take (max 0 (min σ.torn l.length)).toNat), dead := true }, false)
     else ({ σ with writes := IntKind.i64.wrap (σ.writes + 1), left := IntKind.i64.wrap (σ.left - 1), b := putB σ.b at_.toNat l }, true))
  else (σ, false)
def SL.read (σ : SL) (at_ n : Int) : Option (List UInt8) := if σ.has at_ n = true then some ((σ.b.drop at_.toNat).take n.toNat) else none
theorem putB_length (b : List UInt8) (i : Nat) (l : List UInt8) (h : i + l.length ≤ b.length) : (putB b i l).length = b.length := by
  simp [putB]; omega
theorem putAt_bytes (b : List UInt8) (i : Nat) (l : List UInt8) : putAt (byteVals b) i (byteVals l) = byteVals (putB b i l) := by
  simp [putAt, putB, byteVals]
def slabCells (bb : Nat) (σ : SL) : List Value := [.slice (some ⟨bb, 0, none⟩) σ.b.length σ.b.length, .int .i64 σ.left, .int .i64 σ.torn, .int .i64 σ.writes, .bool σ.dead, .bool σ.limits]
/-- The slab that a pointer leads to: its struct is family ks, its bytes are family kb. -/
structure SlabAt (s : St) (p : Value) (ks kb : Nat) (σ : SL) : Prop where
  ne : ks ≠ kb
  len : σ.b.length ≤ 65536
  ex : ∃ bs bb, p = .pointer (some ⟨bs, 0, none⟩) ∧ Blk s ks bs (slabCells bb σ) 6 ∧ Blk s kb bb (byteVals σ.b) 1
theorem SlabAt.keep {X : Nat → Prop} {s s' : St} {p : Value} {ks kb : Nat} {σ : SL} (h : SlabAt s p ks kb σ) (k : Kp X s s') (h1 : ¬ X ks) (h2 : ¬ X kb) : SlabAt s' p ks kb σ := by
  obtain ⟨bs, bb, rfl, g1, g2⟩ := h.ex
  exact ⟨h.ne, h.len, bs, bb, rfl, k.blk _ _ _ _ h1 g1, k.blk _ _ _ _ h2 g2⟩
theorem SlabAt.keep0 {s s' : St} {p : Value} {ks kb : Nat} {σ : SL} (h : SlabAt s p ks kb σ) (k : K0 s s') : SlabAt s' p ks kb σ := h.keep k (fun h => h) fun h => h
theorem SlabAt.lt {s : St} {p : Value} {ks kb : Nat} {σ : SL} (wf : WF s) (h : SlabAt s p ks kb σ) : ks < s.next ∧ kb < s.next := by
  obtain ⟨bs, bb, rfl, g1, g2⟩ := h.ex
  have := g1.lt wf
  have := g2.lt wf
  omega

theorem new_spec {s : St} (wf : WF s) (n : Int) : Cw Try.prog 8 [.int .i64 n] s fun r s' => K0 s s' ∧ ∃ ks kb, s.next ≤ ks ∧ s.next ≤ kb ∧ SlabAt s' r ks kb ⟨List.replicate (max 1 (min n 65536)).toNat 0, 0, 0, 0, false, false⟩ := by
  refine Cw.enter Try.func8 rfl rfl ?_
  conv => whnf
  have hm : (if (if 65536 < n then 65536 else n) > 1 then (if 65536 < n then 65536 else n) else 1) = (((max 1 (min n 65536)).toNat : Nat) : Int) := by
    split <;> split at * <;> omega
  have hm2 : (max 1 (min n 65536)).toNat ≤ 65536 := by omega
  generalize hM : (max 1 (min n 65536)).toNat = M at hm hm2 ⊢
  obtain ⟨v1, s1, e1, o1, k1⟩ := make_one B26 wf rfl .i64 .i64 (n := M) (by omega)
  refine Om.of (v1, s1) ((congrArg (fun x => evMakeSlice Try.prog 32 (.int .i64 x) (.int .i64 x) s) hm).trans e1) ?_
  obtain ⟨bb, rfl, hb, hbl⟩ := o1.ex
  conv => whnf
  rw [← byteVals_replicate] at hb
  have hlt := hb.lt k1.wf
  let σ : SL := ⟨List.replicate M 0, 0, 0, 0, false, false⟩
  have hl : σ.b.length = M := by simp [σ]
  obtain ⟨k2, g⟩ := new_kp k1.wf (slabCells bb σ) 6
  refine Om.of (.pointer (some ⟨s1.next, 0, none⟩), s1.new (slabCells bb σ) 6) (by unfold slabCells; rw [hl]; rfl) ?_
  conv => whnf
  exact ⟨⟨k1.then k2, s1.next, s.next, by have := k1.next; omega, Nat.le_refl _, by omega, by simp; omega, s1.next, bb, rfl, g, k2.blk _ _ _ _ (fun h => h) hb⟩⟩
theorem has_spec {s : St} {p : Value} {ks kb : Nat} {σ : SL} (h : SlabAt s p ks kb σ) (at_ n : Int) : Cw Try.prog 33 [p, .int .i64 at_, .int .i64 n] s fun r s' => s' = s ∧ r = .bool (σ.has at_ n) := by
  obtain ⟨bs, bb, rfl, g1, g2⟩ := h.ex
  have hlen := h.len
  refine Cw.enter Try.func33 rfl rfl ?_
  conv => whnf
  refine Om.of (.bool true) rfl ?_
  conv => whnf
  repeat' (first
    | (refine Br.yes (by first | rfl | with_reducible assumption) ?_; conv => whnf)
    | (refine Br.no (by first | rfl | with_reducible assumption) ?_; conv => whnf)
    | (refine Om.of _ (load_cell Try.underlying4 rfl rfl g1.rd rfl) ?_; conv => whnf)
    | (refine Om.of _ (load_cell Try.underlying32 rfl rfl g1.rd rfl) ?_; conv => whnf)
    | (refine Br.mk (fun hq => ?_) (fun hq => ?_) <;> conv => whnf))
  all_goals (refine ⟨⟨rfl, congrArg Value.bool ?_⟩⟩; simp_all [SL.has])
  all_goals first | omega | rw [wrap_i64 (by omega) (by omega)]
end Go.Ev
