/- Records of chains; what chain.Link does. No condition. -/
import Derived.Test.YtjkbkofgdikmcaaT1
import Derived.Test.YtjkbkofgdikmcaaM1
noncomputable section
namespace Go.Ev
open Go.Proofs
set_option linter.unusedVariables false
set_option maxRecDepth 100000

/-- A record of a chain. -/
structure Rc where
  who : Int
  verb : Int
  what : Int
  text : ByteArray
def Rc.cells (r : Rc) : List Value := [.int .i64 r.who, .int .i64 r.verb, .int .i64 r.what, .string r.text]
def Rc.val (r : Rc) : Value := .agg #[.int .i64 r.who, .int .i64 r.verb, .int .i64 r.what, .string r.text]
structure Rc.ok (r : Rc) : Prop where
  who : Pk.inR r.who
  verb : Pk.inR r.verb
  what : Pk.inR r.what
  text : (bs r.text).length ≤ 140737488351232
def Rc.bytes (r : Rc) : List UInt8 := Pk.encI r.who ++ Pk.encI r.verb ++ Pk.encI r.what ++ Pk.encI (bs r.text).length ++ bs r.text
def linkF (h : BitVec 64) (r : Rc) : BitVec 64 := Mk.sum h r.bytes
theorem link_spec {s : St} (wf : WF s) (h : BitVec 64) {r : Rc} (ok : r.ok) :
    Cw Try.prog 33 [.int .u64 (h.toNat : Int), r.val] s fun v s' => K0 s s' ∧ v = .int .u64 ((linkF h r).toNat : Int) := by
  have l1 := Pk.encI_len ok.who
  have l2 := Pk.encI_len ok.verb
  have l3 := Pk.encI_len ok.what
  have hT := ok.text
  have l4 := Pk.encI_len (n := ((bs r.text).length : Int)) (by unfold Pk.inR; omega)
  refine Cw.enterS Try.func33 rfl rfl ?_
  refine Sm.seqW ?_
  conv => whnf
  obtain ⟨k1, b1⟩ := new_kp wf r.cells 4
  refine Om.of (.pointer (some ⟨s.next, 0, none⟩), s.new r.cells 4) rfl ?_
  generalize s.new r.cells 4 = s1 at k1 b1 ⊢
  conv => whnf
  refine Sm.seqW ?_
  conv => whnf
  refine Om.of _ (load_cell Try.underlying3 rfl rfl b1.rd rfl) ?_
  conv => whnf
  refine (int_spec k1.wf (l := []) (Sl.nil _ 1) (by simp) ok.who).mono ?_
  rintro v2 s2 ⟨k2, o2⟩
  obtain ⟨κ2, q2, _⟩ := o2.slb
  have b2 := k2.blk _ _ _ _ (fun h => h) b1
  conv => whnf
  refine Sm.weak [(0, .int .u64 (h.toNat : Int)), (3, .pointer (some ⟨s.next, 0, none⟩)), (5, v2)] (.cons rfl (.cons rfl (.cons rfl (Sub.nil _)))) ?_
  refine Sm.seqW ?_
  conv => whnf
  refine Om.of _ (load_cell Try.underlying3 rfl rfl b2.rd rfl) ?_
  conv => whnf
  refine (int_spec k2.wf q2 (by simp; omega) ok.verb).mono ?_
  rintro v3 s3 ⟨k3, o3⟩
  obtain ⟨κ3, q3, _⟩ := o3.slb
  have b3 := k3.blk _ _ _ _ (fun h => h) b2
  conv => whnf
  refine Sm.weak [(0, .int .u64 (h.toNat : Int)), (3, .pointer (some ⟨s.next, 0, none⟩)), (5, v3)] (.cons rfl (.cons rfl (.cons rfl (Sub.nil _)))) ?_
  refine Sm.seqW ?_
  conv => whnf
  refine Om.of _ (load_cell Try.underlying3 rfl rfl b3.rd rfl) ?_
  conv => whnf
  refine (int_spec k3.wf q3 (by simp; omega) ok.what).mono ?_
  rintro v4 s4 ⟨k4, o4⟩
  obtain ⟨κ4, q4, _⟩ := o4.slb
  have b4 := k4.blk _ _ _ _ (fun h => h) b3
  conv => whnf
  refine Sm.weak [(0, .int .u64 (h.toNat : Int)), (3, .pointer (some ⟨s.next, 0, none⟩)), (5, v4)] (.cons rfl (.cons rfl (.cons rfl (Sub.nil _)))) ?_
  refine Sm.seqW ?_
  conv => whnf
  refine Om.of _ (load_cell Try.underlying9 rfl rfl b4.rd rfl) ?_
  conv => whnf
  refine (text_spec k4.wf q4 (by simp; omega) r.text (by simp; omega)).mono ?_
  rintro v5 s5 ⟨k5, o5⟩
  obtain ⟨κ5, q5, _⟩ := o5.slb
  conv => whnf
  refine (sum_spec s5 q5 (by simp; omega) h).mono ?_
  rintro v6 s6 ⟨rfl, rfl⟩
  conv => whnf
  refine Sm.ofW ?_
  conv => whnf
  exact ⟨(((k1.then k2).then k3).then k4).then k5, rfl⟩
end Go.Ev
