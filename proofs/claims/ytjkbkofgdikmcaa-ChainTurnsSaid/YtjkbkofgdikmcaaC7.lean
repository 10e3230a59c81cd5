/- Books of chains: what Right does; a raw record, a label. No condition. -/
import Derived.Test.YtjkbkofgdikmcaaC6
noncomputable section
namespace Go.Ev
open Go.Proofs
set_option linter.unusedVariables false
set_option maxRecDepth 100000

def rightF (c : Ch) : Bool := ((c.last.foldl linkF c.base).toNat : Int) == (c.head.toNat : Int) && ((c.last.length : Int) == (if 8 < c.count then 8 else c.count) && (decide (c.count > 8) || ((c.base.toNat : Int) == 0)))
theorem right_spec {s : St} (wf : WF s) {c : Ch} {κ : Option Nat} {v : Value} (hv : Sr s κ v c.last) (ok : ∀ r ∈ c.last, r.ok) (hl : c.last.length ≤ 5000000000000) :
    Cw Try.prog 32 [chVal c v] s fun r s' => K0 s s' ∧ r = .bool (rightF c) := by
  obtain ⟨a, cp, rfl⟩ := hv.shape
  refine Cw.enterS Try.func32 rfl rfl ?_
  refine Sm.seqW ?_
  conv => whnf
  obtain ⟨k1, b1⟩ := new_kp wf (chCells c (.slice a c.last.length cp)) 4
  refine Om.of (.pointer (some ⟨s.next, 0, none⟩), s.new (chCells c (.slice a c.last.length cp)) 4) rfl ?_
  have n1 : (s.new (chCells c (.slice a c.last.length cp)) 4).next = s.next + 1 := rfl
  generalize s.new (chCells c (.slice a c.last.length cp)) 4 = s1 at k1 b1 n1 ⊢
  conv => whnf
  have hv1 := hv.keep0 k1
  refine Sm.seqW ?_
  conv => whnf
  refine Om.of _ (load_cell Try.underlying46 rfl rfl b1.rd rfl) ?_
  conv => whnf
  refine Sm.seq ?_
  refine Sm.seqW ?_
  conv => whnf
  refine Om.of _ (load_cell Try.underlying52 rfl rfl b1.rd rfl) ?_
  conv => whnf
  refine Sm.block ?_
  refine Sm.loop ?_
  refine Lp.ofS (α := Nat) (fun i => [(1, .pointer (some ⟨s.next, 0, none⟩)), (3, .int .u64 ((((c.last.take i).foldl linkF c.base).toNat : Nat) : Int)), (9, .slice a c.last.length cp), (10, .int .i64 (c.last.length : Int)), (11, .int .i64 (i : Int))])
    (fun i s' => K0 s1 s' ∧ i ≤ c.last.length) (fun i => c.last.length - i) ?_ 0 (.cons rfl (.cons rfl (.cons rfl (.cons rfl (.cons rfl (Sub.nil _)))))) ⟨Kp.refl k1.wf, by omega⟩
  rintro i s2 ⟨k2, hi⟩
  have KK2 := k1.then k2
  have b2 := k2.blk _ _ _ _ (fun h => h) b1
  have hv2 := hv1.keep0 k2
  refine Sm.seqW ?_
  conv => whnf
  refine Sm.seqW ?_
  conv => whnf
  refine Br.mk (fun hc => ?_) (fun hc => ?_)
  rotate_left
  · have hc := of_decide_eq_false hc
    conv => whnf
    rw [List.take_of_length_le (by omega)]
    have key : ∀ x y z w : Bool, ((((c.last.foldl linkF c.base).toNat : Nat) : Int) == (c.head.toNat : Int)) = x → ((c.last.length : Int) == (if 8 < c.count then 8 else c.count)) = y → decide (c.count > 8) = z → ((c.base.toNat : Int) == 0) = w → rightF c = (x && (y && (z || w))) := by
      intro x y z w h1 h2 h3 h4
      unfold rightF
      rw [h1, h2, h3, h4]
    refine Sm.seqW ?_
    conv => whnf
    refine Om.of _ (load_cell Try.underlying46 rfl rfl b2.rd rfl) ?_
    conv => whnf
    cases hx : ((((c.last.foldl linkF c.base).toNat : Nat) : Int) == (c.head.toNat : Int)) <;> cases hy : ((c.last.length : Int) == (if 8 < c.count then 8 else c.count)) <;> cases hz : decide (c.count > 8) <;> cases hw : ((c.base.toNat : Int) == 0)
    all_goals
      have hkey := key _ _ _ _ hx hy hz hw
      clear key
      repeat (first
        | (refine Br.yes (by first | rfl | assumption) ?_; conv => whnf)
        | (refine Br.no (by first | rfl | assumption) ?_; conv => whnf)
        | (refine Om.of _ (load_cell Try.underlying46 rfl rfl b2.rd rfl) ?_; conv => whnf)
        | (refine Om.of _ (load_cell Try.underlying3 rfl rfl b2.rd rfl) ?_; conv => whnf)
        | (refine Om.of _ (load_cell Try.underlying52 rfl rfl b2.rd rfl) ?_; conv => whnf))
      refine Sm.ofW ?_
      conv => whnf
      refine ⟨KK2, congrArg Value.bool ?_⟩
      rw [hkey]
      first | rfl | assumption
  have hc : i < c.last.length := by have := of_decide_eq_true hc; omega
  conv => whnf
  refine Sm.seq (Sm.block ?_)
  refine Sm.seqW ?_
  conv => whnf
  obtain ⟨p, e1, e2⟩ := index_rc hv2 .i64 hc
  refine Om.of _ e1 ?_
  conv => whnf
  refine Om.of _ e2 ?_
  conv => whnf
  obtain ⟨k3, b3⟩ := new_kp KK2.wf [.int .i64 0, .int .i64 0, .int .i64 0, .string ⟨#[]⟩] 4
  refine Om.of (.pointer (some ⟨s2.next, 0, none⟩), s2.new [.int .i64 0, .int .i64 0, .int .i64 0, .string ⟨#[]⟩] 4) rfl ?_
  have n3 : (s2.new [.int .i64 0, .int .i64 0, .int .i64 0, .string ⟨#[]⟩] 4).next = s2.next + 1 := rfl
  generalize s2.new [.int .i64 0, .int .i64 0, .int .i64 0, .string ⟨#[]⟩] 4 = s3 at k3 b3 n3 ⊢
  conv => whnf
  obtain ⟨s4, e4, k4, b4, _⟩ := store_all (P := Try.prog) (t := 51) (i := _) rfl k3.wf b3 (a := #[.int .i64 c.last[i].who, .int .i64 c.last[i].verb, .int .i64 c.last[i].what, .string c.last[i].text]) (l := c.last[i].cells) rfl rfl rfl rfl
  refine Om.of s4 e4 ?_
  conv => whnf
  have K4 : K0 s1 s4 := (k2.then k3).touch k4 (fun k hk => by subst hk; exact k2.next)
  refine Sm.weak [(1, .pointer (some ⟨s.next, 0, none⟩)), (3, .int .u64 ((((c.last.take i).foldl linkF c.base).toNat : Nat) : Int)), (5, .pointer (some ⟨s2.next, 0, none⟩)), (9, .slice a c.last.length cp), (10, .int .i64 (c.last.length : Int)), (11, .int .i64 (i : Int))] (.cons rfl (.cons rfl (.cons rfl (.cons rfl (.cons rfl (.cons rfl (Sub.nil _))))))) ?_
  refine Sm.ofW ?_
  conv => whnf
  refine Om.of _ (load_agg Try.underlying51 rfl b4.rd (sl_all rfl)) ?_
  conv => whnf
  refine (link_spec K4.wf ((c.last.take i).foldl linkF c.base) (ok c.last[i] (List.getElem_mem hc))).mono ?_
  rintro r5 s5 ⟨k5, rfl⟩
  conv => whnf
  refine Sm.ofW ?_
  conv => whnf
  have e5 : linkF ((c.last.take i).foldl linkF c.base) c.last[i] = (c.last.take (i + 1)).foldl linkF c.base := by rw [List.take_succ_eq_append_getElem hc, List.foldl_append]; rfl
  have e6 : IntKind.i64.wrap ((i : Int) + 1) = ((i + 1 : Nat) : Int) := by rw [wrap_i64 (by omega) (by omega)]; omega
  rw [e5]
  exact ⟨i + 1, by (show c.last.length - (i + 1) < c.last.length - i); omega, .cons rfl (.cons rfl (.cons rfl (.cons rfl (.cons (congrArg (fun x => some (Value.int .i64 x)) e6) (Sub.nil _))))), K4.then k5, by omega⟩
end Go.Ev
