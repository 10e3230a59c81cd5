/- Chains: a raw record, a label; what 'known' says. No condition. -/
import Derived.Test.YtjkbkofgdikmcaaC7
import Derived.Test.YtjkbkofgdikmcaaF3
noncomputable section
namespace Go.Ev
open Go.Proofs
set_option linter.unusedVariables false
set_option maxRecDepth 100000

/-- A record, raw: its label's number ahead. -/
structure Rw where
  l : Int
  r : Rc
def Rw.cells (x : Rw) : List Value := .int .i64 x.l :: x.r.cells
def Rw.val (x : Rw) : Value := .agg #[.int .i64 x.l, .int .i64 x.r.who, .int .i64 x.r.verb, .int .i64 x.r.what, .string x.r.text]
structure Rw.ok (x : Rw) : Prop where
  l : Pk.inR x.l
  r : x.r.ok
theorem rw_fits {r : List Value} (h : Fits [.int .i64, .int .i64, .int .i64, .int .i64, .str] r) : ∃ x : Rw, r = x.cells ∧ x.ok := by
  have hl := h.length
  match r, hl with
  | [a, b, c, d, e], _ =>
  obtain ⟨h1, h2, h3, h4, h5, _⟩ := h
  cases a <;> try exact h1.elim
  cases b <;> try exact h2.elim
  cases c <;> try exact h3.elim
  cases d <;> try exact h4.elim
  cases e <;> try exact h5.elim
  obtain ⟨rfl, h1⟩ := h1
  obtain ⟨rfl, h2⟩ := h2
  obtain ⟨rfl, h3⟩ := h3
  obtain ⟨rfl, h4⟩ := h4
  exact ⟨⟨_, ⟨_, _, _, _⟩⟩, rfl, i64_wf h1, ⟨i64_wf h2, i64_wf h3, i64_wf h4, h5⟩⟩
theorem record_spec {s : St} (wf : WF s) (x : Rw) : Cw Try.prog 35 [x.val] s fun r s' => K0 s s' ∧ r = x.r.val := by
  refine Cw.enterS Try.func35 rfl rfl ?_
  refine Sm.seqW ?_
  conv => whnf
  obtain ⟨k1, b1⟩ := new_kp wf x.cells 5
  refine Om.of (.pointer (some ⟨s.next, 0, none⟩), s.new x.cells 5) rfl ?_
  have n1 : (s.new x.cells 5).next = s.next + 1 := rfl
  generalize s.new x.cells 5 = s1 at k1 b1 n1 ⊢
  conv => whnf
  obtain ⟨k2, b2⟩ := new_kp k1.wf [.int .i64 0, .int .i64 0, .int .i64 0, .string ⟨#[]⟩] 4
  refine Om.of (.pointer (some ⟨s1.next, 0, none⟩), s1.new [.int .i64 0, .int .i64 0, .int .i64 0, .string ⟨#[]⟩] 4) rfl ?_
  generalize s1.new [.int .i64 0, .int .i64 0, .int .i64 0, .string ⟨#[]⟩] 4 = s2 at k2 b2 ⊢
  conv => whnf
  have b1' := k2.blk _ _ _ _ (fun h => h) b1
  have K2 := k1.then k2
  refine Sm.seqW ?_
  conv => whnf
  refine Om.of _ (load_cell Try.underlying3 rfl rfl b1'.rd rfl) ?_
  conv => whnf
  refine Om.of _ (load_cell Try.underlying3 rfl rfl b1'.rd rfl) ?_
  conv => whnf
  refine Om.of _ (load_cell Try.underlying3 rfl rfl b1'.rd rfl) ?_
  conv => whnf
  refine Om.of _ (load_cell Try.underlying9 rfl rfl b1'.rd rfl) ?_
  conv => whnf
  obtain ⟨s3, e3, k3, b3, _⟩ := store_all (P := Try.prog) (t := 51) (i := _) rfl K2.wf b2 (a := #[.int .i64 x.r.who, .int .i64 x.r.verb, .int .i64 x.r.what, .string x.r.text]) (l := x.r.cells) rfl rfl rfl rfl
  refine Om.of s3 e3 ?_
  conv => whnf
  refine Sm.ofW ?_
  conv => whnf
  refine Om.of _ (load_agg Try.underlying51 rfl b3.rd (sl_all rfl)) ?_
  conv => whnf
  exact ⟨K2.touch k3 (fun k hk => by subst hk; omega), rfl⟩
/-- One of a few labels. -/
def lab (n : Int) : Lb := ⟨n % 3, (n.tdiv 3) % 2⟩
theorem label_spec {s : St} (wf : WF s) {n : Int} (hn : inR n) : Cw Try.prog 34 [.int .i64 n] s fun r s' => K0 s s' ∧ r = (lab n).val := by
  obtain ⟨hn1, hn2⟩ := hn
  have t1 : inR (n.tdiv 3) := by
    have h1 := Int.tdiv_mul_add_tmod n 3
    have h2 := Int.tmod_lt_of_pos n (show (0 : Int) < 3 by omega)
    have h3 := Int.lt_tmod_of_pos n (show (0 : Int) < 3 by omega)
    unfold inR
    omega
  refine Cw.enterS Try.func34 rfl rfl ?_
  refine Sm.seqW ?_
  conv => whnf
  obtain ⟨k1, b1⟩ := new_kp wf [.int .u64 0, .int .i64 0] 2
  refine Om.of (.pointer (some ⟨s.next, 0, none⟩), s.new [.int .u64 0, .int .i64 0] 2) rfl ?_
  generalize s.new [.int .u64 0, .int .i64 0] 2 = s1 at k1 b1 ⊢
  conv => whnf
  refine Sm.seqW ?_
  conv => whnf
  refine (pick_spec s1 ⟨hn1, hn2⟩ (m := 3) (by omega) (by omega)).mono ?_
  rintro r s2 ⟨rfl, rfl⟩
  conv => whnf
  have e1 : IntKind.u64.wrap (n % 3) = n % 3 := by rw [wrap_u64i]; omega
  have e2 : IntKind.i64.wrap (n.tdiv 3) = n.tdiv 3 := wrap_i64 t1.1 t1.2
  refine Om.of (.int .i64 (n.tdiv 3)) (congrArg (fun x => some (Value.int .i64 x)) e2) ?_
  conv => whnf
  refine (pick_spec s2 t1 (m := 2) (by omega) (by omega)).mono ?_
  rintro r s3 ⟨rfl, rfl⟩
  conv => whnf
  obtain ⟨s4, e4, k4, b4, _⟩ := store_all (P := Try.prog) (t := 48) (i := _) rfl k1.wf b1 (a := #[.int .u64 (IntKind.u64.wrap (n % 3)), .int .i64 ((n.tdiv 3) % 2)]) (l := (lab n).cells) (by rw [e1]; rfl) rfl rfl rfl
  refine Om.of s4 e4 ?_
  conv => whnf
  refine Sm.ofW ?_
  conv => whnf
  refine Om.of _ (load_agg Try.underlying48 rfl b4.rd (sl_all rfl)) ?_
  conv => whnf
  exact ⟨k1.touch k4 (fun k hk => by subst hk; exact Nat.le_refl _), rfl⟩
end Go.Ev
