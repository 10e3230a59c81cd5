/- Chains: what 'known' says. No condition. -/
import Derived.Test.YtjkbkofgdikmcaaC8
noncomputable section
namespace Go.Ev
open Go.Proofs
set_option linter.unusedVariables false
set_option maxRecDepth 100000

def rc1 : Rc := ⟨1, 2, 0, ⟨#[97]⟩⟩
theorem rc1_ok : rc1.ok := ⟨by unfold Pk.inR rc1; decide, by unfold Pk.inR rc1; decide, by unfold Pk.inR rc1; decide, by decide⟩
theorem cknown_spec {s : St} (wf : WF s) : Cw Try.prog 29 [] s fun r s' => r = .bool true ∧ K0 s s' := by
  refine Cw.enterS Try.func29 rfl rfl ?_
  refine Sm.seqW ?_
  conv => whnf
  refine Sm.seqW ?_
  conv => whnf
  refine (cnew_spec wf).mono ?_
  rintro p s1 ⟨k1, kb, mb, n1, n2, h1⟩
  obtain ⟨b0, rfl, _⟩ := h1.ex
  conv => whnf
  refine Sm.seq ?_
  refine Sm.seqW ?_
  conv => whnf
  refine Om.of (.bool false) rfl ?_
  conv => whnf
  refine Sm.ofW ?_
  conv => whnf
  refine Br.no rfl ?_
  conv => whnf
  refine Sm.weak [(1, .pointer (some ⟨b0, 0, none⟩))] (.cons rfl (Sub.nil _)) ?_
  refine Sm.seqW ?_
  conv => whnf
  let l1 : Lb := ⟨1, 0⟩
  obtain ⟨k2, b2⟩ := new_kp k1.wf [.int .u64 0, .int .i64 0] 2
  refine Om.of (.pointer (some ⟨s1.next, 0, none⟩), s1.new [.int .u64 0, .int .i64 0] 2) rfl ?_
  generalize s1.new [.int .u64 0, .int .i64 0] 2 = s2 at k2 b2 ⊢
  conv => whnf
  obtain ⟨s3, e3, k3, b3, _⟩ := store_all (P := Try.prog) (t := 48) (i := _) rfl k2.wf b2 (a := #[.int .u64 1, .int .i64 0]) (l := l1.cells) rfl rfl rfl rfl
  refine Om.of s3 e3 ?_
  conv => whnf
  have K3 : K0 s1 s3 := k2.touch k3 (fun k hk => by subst hk; exact Nat.le_refl _)
  have h3 := h1.keep0 K3
  have K03 := k1.then K3
  have n3 := k1.next
  have lt3 := b3.lt K3.wf
  have lth := h1.lt k1.wf
  refine Sm.weak [(1, .pointer (some ⟨b0, 0, none⟩)), (2, .pointer (some ⟨s1.next, 0, none⟩))] (.cons rfl (.cons rfl (Sub.nil _))) ?_
  -- x
  refine Sm.seqW ?_
  conv => whnf
  refine Om.of _ (load_agg Try.underlying48 rfl b3.rd (sl_all rfl)) ?_
  conv => whnf
  refine (of_spec K3.wf h3 l1).mono ?_
  rintro _ s4 ⟨k4, w4, rfl, o4⟩
  obtain ⟨a4, c4, rfl⟩ := o4.shape
  conv => whnf
  obtain ⟨k5, b5⟩ := new_kp k4.wf (chCells Ch.zero (.slice none 0 0)) 4
  refine Om.of (.pointer (some ⟨s4.next, 0, none⟩), s4.new (chCells Ch.zero (.slice none 0 0)) 4) rfl ?_
  generalize s4.new (chCells Ch.zero (.slice none 0 0)) 4 = s5 at k5 b5 ⊢
  conv => whnf
  have z1 : chOf [] l1 = Ch.zero := rfl
  rw [z1] at o4 ⊢
  obtain ⟨s6, e6, k6, b6, _⟩ := store_all (P := Try.prog) (t := 54) (i := _) rfl k5.wf b5 (a := #[.int .i64 0, .int .u64 0, .slice a4 Ch.zero.last.length c4, .int .u64 0]) (l := chCells Ch.zero (.slice a4 Ch.zero.last.length c4)) rfl rfl rfl rfl
  refine Om.of s6 e6 ?_
  conv => whnf
  have b5lt := b5.lt k5.wf
  have K46 : K0 s4 s6 := k5.touch k6 (fun k hk => by subst hk; exact Nat.le_refl _)
  have K36 : K0 s3 s6 := k4.then K46
  have h6 := h3.keep0 K36
  have b36 := K36.blk _ _ _ _ (fun h => h) b3
  have o6 := o4.keep0 K46
  refine Sm.weak [(1, .pointer (some ⟨b0, 0, none⟩)), (2, .pointer (some ⟨s1.next, 0, none⟩)), (3, .pointer (some ⟨s4.next, 0, none⟩))] (.cons rfl (.cons rfl (.cons rfl (Sub.nil _)))) ?_
  -- added
  refine Sm.seqW ?_
  conv => whnf
  refine Om.of _ (load_agg Try.underlying48 rfl b36.rd (sl_all rfl)) ?_
  conv => whnf
  refine (add_spec K36.wf h6 l1 rc1_ok).mono ?_
  rintro _ s7 ⟨k7, E', h7, f7, g7⟩
  conv => whnf
  have nf : ∀ j, famE mb [] j → j < s1.next := fun j hj => lth.2 j hj
  have b7 := k7.blk _ _ _ _ (fun h => by have := nf _ h; omega) b36
  have b67 := k7.blk _ _ _ _ (fun h => by have := nf _ h; have := k4.next; have := K3.next; omega) b6
  have n4 := k4.next
  have n5 := K3.next
  have o7 := o6.keep k7 (fun k h1 h2 h => by have := nf _ h; omega)
  have K07 : K0 s s7 := (K03.then K36).touch k7 (fun j hj => by
    rcases hj with rfl | ⟨e, he, _⟩
    · exact n2
    · cases he)
  have z2 : chOf E' l1 = Ch.zero.add rc1 := by rw [g7]; rfl
  refine Sm.weak [(1, .pointer (some ⟨b0, 0, none⟩)), (2, .pointer (some ⟨s1.next, 0, none⟩)), (3, .pointer (some ⟨s4.next, 0, none⟩))] (.cons rfl (.cons rfl (.cons rfl (Sub.nil _)))) ?_
  -- y
  refine Sm.seqW ?_
  conv => whnf
  refine Om.of _ (load_agg Try.underlying48 rfl b7.rd (sl_all rfl)) ?_
  conv => whnf
  refine (of_spec k7.wf h7 l1).mono ?_
  rintro _ s8 ⟨k8, w8, rfl, o8⟩
  obtain ⟨a8, c8, rfl⟩ := o8.shape
  conv => whnf
  obtain ⟨k9, b9⟩ := new_kp k8.wf (chCells Ch.zero (.slice none 0 0)) 4
  refine Om.of (.pointer (some ⟨s8.next, 0, none⟩), s8.new (chCells Ch.zero (.slice none 0 0)) 4) rfl ?_
  generalize s8.new (chCells Ch.zero (.slice none 0 0)) 4 = s9 at k9 b9 ⊢
  conv => whnf
  rw [z2] at o8 ⊢
  have hl : (Ch.zero.add rc1).last.length = 1 := rfl
  obtain ⟨s10, e10, k10, b10, _⟩ := store_all (P := Try.prog) (t := 54) (i := _) rfl k9.wf b9 (a := #[.int .i64 (Ch.zero.add rc1).count, .int .u64 ((Ch.zero.add rc1).head.toNat : Int), .slice a8 (Ch.zero.add rc1).last.length c8, .int .u64 ((Ch.zero.add rc1).base.toNat : Int)]) (l := chCells (Ch.zero.add rc1) (.slice a8 (Ch.zero.add rc1).last.length c8)) rfl rfl rfl rfl
  refine Om.of s10 e10 ?_
  conv => whnf
  have K810 : K0 s8 s10 := k9.touch k10 (fun k hk => by subst hk; exact Nat.le_refl _)
  have K710 : K0 s7 s10 := k8.then K810
  have bx := K710.blk _ _ _ _ (fun h => h) b67
  have ox := o7.keep0 K710
  have oy := o8.keep0 K810
  have K10 := K07.then K710
  clear b2 b3 b36 b5 b6 b67 b7 b9 o4 o6 o7 o8 h1 h3 h6 h7
  refine Sm.weak [(3, .pointer (some ⟨s4.next, 0, none⟩)), (4, .pointer (some ⟨s8.next, 0, none⟩))] (.cons rfl (.cons rfl (Sub.nil _))) ?_
  obtain ⟨κx, qx, _⟩ := ox.slb
  obtain ⟨κy, qy, _⟩ := oy.slb
  refine Sm.seqW ?_
  conv => whnf
  refine ⟨[0, 1, 3, 7, 15, 31, 63, 127, 255, 511, 1023, 2047, 4095, 8191, 16383, 32767, 65535, 131071, 262143, 524287, 1048575, 524287, 2621439, 8388607, 16777215, 33554431, 67108863, 134217727, 268435455, 536870911, 1073741823, 2147483647, 4294967295, 8589934591, 17179869183], by decide +kernel, by decide +kernel, ?_⟩
  conv => whnf
  refine Om.of _ (load_cell Try.underlying3 rfl rfl bx.rd rfl) ?_
  conv => whnf
  repeat (refine Br.yes rfl ?_; conv => whnf)
  refine Om.of _ (load_agg Try.underlying54 rfl bx.rd (sl_all rfl)) ?_
  conv => whnf
  repeat (refine Br.yes rfl ?_; conv => whnf)
  refine (right_spec (c := Ch.zero) K10.wf.reset qx.reset (by simp [Ch.zero]) (by simp [Ch.zero])).mono ?_
  rintro _ s11 ⟨k11, rfl⟩
  conv => whnf
  refine Dk.nw (k11.low_reset fun _ h => h.elim) ?_
  have k11' := k11.of_reset K10.wf
  generalize relow s10 s11 = t11 at k11' ⊢
  have by11 := k11'.blk _ _ _ _ (fun h => h) b10
  have qy11 := qy.keep0 k11'
  have e11 : rightF Ch.zero = true := by decide +kernel
  rw [e11]
  conv => whnf
  have f1 : (Ch.zero.add rc1).count = 1 := by decide +kernel
  have f2 : (Ch.zero.add rc1).last = [rc1] := rfl
  have f3 : (Ch.zero.add rc1).head = linkF 0 rc1 := rfl
  have f4 : rightF (Ch.zero.add rc1) = true := by decide +kernel
  have f5 : (((linkF 0 rc1).toNat : Int) != 0) = true := by decide +kernel
  generalize Ch.zero.add rc1 = c at by11 qy11 f1 f2 f3 f4 hl
  have g1 : (c.count == 1) = true := by rw [f1]; rfl
  have g2 : ((c.last.length : Int) == 1) = true := by rw [hl]; rfl
  have g3 : ((c.head.toNat : Int) == ((linkF 0 rc1).toNat : Int)) = true := by rw [f3]; simp
  have g4 : ((c.head.toNat : Int) != 0) = true := by rw [f3]; exact f5
  have hok : ∀ r ∈ c.last, r.ok := by
    rw [f2]
    intro r hr
    rw [List.mem_singleton] at hr
    rw [hr]; exact rc1_ok
  have K11 := K10.then k11'
  repeat (refine Br.yes (by first | rfl | with_reducible assumption) ?_; conv => whnf)
  refine Om.of _ (load_cell Try.underlying3 rfl rfl by11.rd rfl) ?_
  conv => whnf
  repeat (refine Br.yes (by first | with_reducible assumption | rfl) ?_; conv => whnf)
  refine Om.of _ (load_cell Try.underlying52 rfl rfl by11.rd rfl) ?_
  conv => whnf
  repeat (refine Br.yes (by first | with_reducible assumption | rfl) ?_; conv => whnf)
  refine Om.of _ (load_cell Try.underlying46 rfl rfl by11.rd rfl) ?_
  conv => whnf
  repeat (refine Br.yes (by first | with_reducible assumption | rfl) ?_; conv => whnf)
  refine (link_spec K11.wf.reset 0 rc1_ok).mono ?_
  rintro _ s12 ⟨k12, rfl⟩
  conv => whnf
  refine Dk.nw (k12.low_reset fun _ h => h.elim) ?_
  have k12' := k12.of_reset K11.wf
  generalize relow t11 s12 = t12 at k12' ⊢
  have by12 := k12'.blk _ _ _ _ (fun h => h) by11
  have qy12 := qy11.keep0 k12'
  have K12 := K11.then k12'
  conv => whnf
  repeat (refine Br.yes (by first | with_reducible assumption | rfl) ?_; conv => whnf)
  refine Om.of _ (load_cell Try.underlying46 rfl rfl by12.rd rfl) ?_
  conv => whnf
  repeat (refine Br.yes (by first | with_reducible assumption | rfl) ?_; conv => whnf)
  refine Om.of _ (load_agg Try.underlying54 rfl by12.rd (sl_all rfl)) ?_
  conv => whnf
  repeat (refine Br.yes (by first | with_reducible assumption | rfl) ?_; conv => whnf)
  refine (right_spec (c := c) K12.wf.reset qy12.reset hok (by omega)).mono ?_
  rintro _ s13 ⟨k13, rfl⟩
  conv => whnf
  refine Dk.nw (k13.low_reset fun _ h => h.elim) ?_
  have k13' := k13.of_reset K12.wf
  rw [f4]
  conv => whnf
  repeat (refine Br.yes (by first | with_reducible assumption | rfl) ?_; conv => whnf)
  refine Sm.ofW ?_
  conv => whnf
  exact ⟨rfl, K12.then k13'⟩
end Go.Ev
