/- Chains: what 'convert' and 'same' do; numbers by labels. No condition. -/
import Derived.Test.YtjkbkofgdikmcaaC12
import Derived.Test.YtjkbkofgdikmcaaS5
noncomputable section
namespace Go.Ev
open Go.Proofs
set_option linter.unusedVariables false
set_option maxRecDepth 100000

def bookA (p : Value) (kb mb : Nat) (E : List Ent) : At where
  foot := fun j => j = kb ∨ famE mb E j
  ok := fun s => BookAt s p kb mb E
  keep := fun _ _ _ hk hX h => h.keep hk (hX kb (.inl rfl)) fun j hj => hX j (.inr hj)
  lt := fun s wf h j hj => by
    have := h.lt wf
    rcases hj with rfl | hj
    · exact this.1
    · exact this.2 j hj
  lo := fun s m h => by
    obtain ⟨bs, rfl, g⟩ := h.ex
    exact ⟨⟨bs, rfl, g.lo m⟩, ⟨h.mp.ex⟩, fun e he => (h.own e he).lo m, h.ok, h.ne, h.fam⟩
theorem R71 : SlT Try.prog 71 69 4 40 (.agg #[.int .i64 0, .int .i64 0, .int .i64 0, .string ⟨#[]⟩]) := ⟨Try.underlying71, ⟨_, rfl, rfl, rfl, rfl⟩, rfl, rfl, by decide, by decide⟩
/-- One element of records, whatever they are called. -/
theorem index_rcT {t et by_ : Nat} {z : Value} (T : SlT Try.prog t et 4 by_ z) {fs : Array Field} (hu : Try.prog.underlying et = some (.struct fs)) {s : St} {κ : Option Nat} {v : Value} {l : List Rc} (h : Sr s κ v l) (k : IntKind) {i : Nat} (hi : i < l.length) :
    ∃ a, evIndexAddr Try.prog t v (.int k (i : Int)) = some (.pointer (some a)) ∧ evLoad Try.prog et (.pointer (some a)) s = some l[i].val := by
  obtain ⟨a, e1, e2⟩ := index_slN T hu h k hi
  rw [rc_at hi] at e2
  exact ⟨a, e1, e2⟩
theorem Hp.rec1 {X : Nat → Prop} {s0 s : St} {R F : List At} {K : Value × St → Prop} (h : Hp X s0 R F s) (r : Rc) (hk : ∀ v b s', Hp X s0 R (ownA b v 4 1 (rcCells [r]) :: F) s' → K0 s s' → K (v, s')) : Om (evBuildSlice Try.prog 71 1 [(0, r.val)] s) K := by
  obtain ⟨k7, b7⟩ := new_kp h.wf r.cells 4
  refine .of (.slice (some ⟨s.next, 0, none⟩) 1 1, s.new r.cells 4) rfl (hk _ _ _ (h.push k7 ⟨_, rfl, b7, rfl⟩ fun j hj => by subst hj; exact Nat.le_refl _) k7)
theorem convert_spec {s : St} (wf : WF s) {c : Ch} {κ : Option Nat} {v : Value} (hv : Sr s κ v c.last) (hl : c.last.length ≤ 1000) :
    Cw Try.prog 38 [chVal c v] s fun r s' => K0 s s' ∧ ∃ w, r = chVal c w ∧ Or s.next s' w c.last := by
  have hp : Hp (fun _ => False) s [slA κ v 4 c.last.length (rcCells c.last)] [] s := Hp.start _ wf _ (by simp; exact hv)
  obtain ⟨a, cp, rfl⟩ := hv.shape
  refine Cw.enterS Try.func38 rfl rfl ?_
  refine Sm.seqW ?_
  conv => whnf
  refine hp.var (cs := chCells c (.slice a c.last.length cp)) (e := 4) rfl rfl ?_
  clear hp
  intro b1 s1 hp k1
  conv => whnf
  refine hp.alloc (cs := chCells Ch.zero (.slice none 0 0)) (e := 4) rfl rfl rfl rfl rfl ?_
  clear hp k1
  intro b2 s2 hp k2
  conv => whnf
  refine Sm.seqW ?_
  conv => whnf
  (refine hp.load (by repeat (first | exact Has.here | apply Has.there | (apply Has.swap; repeat (first | exact HasR.here | apply HasR.there)))) (by rfl) rfl rfl rfl ?_; conv => whnf)
  (refine hp.load (by repeat (first | exact Has.here | apply Has.there | (apply Has.swap; repeat (first | exact HasR.here | apply HasR.there)))) (by rfl) rfl rfl rfl ?_; conv => whnf)
  (refine hp.load (by repeat (first | exact Has.here | apply Has.there | (apply Has.swap; repeat (first | exact HasR.here | apply HasR.there)))) (by rfl) rfl rfl rfl ?_; conv => whnf)
  refine hp.alloc (cs := chCells Ch.zero (.slice none 0 0)) (e := 4) rfl rfl rfl rfl rfl ?_
  clear hp k2
  intro b3 s3 hp k3
  conv => whnf
  refine hp.storeW (vs := chCells { c with last := [] } (.slice none 0 0)) rfl (by repeat (first | exact Rm.here | apply Rm.there)) (by rfl) rfl rfl rfl ?_
  clear hp k3
  intro s4 hp _
  conv => whnf
  refine Sm.live [1, 2, 3] ?_
  conv => whnf
  refine Sm.seq ?_
  refine Sm.seqW ?_
  conv => whnf
  (refine hp.load (by repeat (first | exact Has.here | apply Has.there | (apply Has.swap; repeat (first | exact HasR.here | apply HasR.there)))) (by rfl) rfl rfl rfl ?_; conv => whnf)
  refine Sm.block ?_
  refine Sm.loop ?_
  have hp0 : Hp (fun _ => False) s [slA κ (.slice a c.last.length cp) 4 c.last.length (rcCells c.last)] [blkA b3 b3 (chCells { c with last := [] } (.slice none 0 0)) 4, onA none (.slice none 0 0) 4 0 (rcCells []), blkA b1 b1 (chCells c (.slice a c.last.length cp)) 4, blkA b2 b2 (chCells Ch.zero (.slice none 0 0)) 4] s4 :=
    (hp.push (a := onA none (.slice none 0 0) 4 0 (rcCells [])) (.refl hp.wf) ⟨.inl ⟨rfl, rfl, rfl, rfl⟩⟩ fun j hj => by cases hj).pik (by repeat (first | exact Pik.nil | exact Pik.refl _ | exact Rm.here | apply Rm.there | apply Pik.cons))
  clear hp
  refine Lp.ofS (α := Nat × Option Nat × Value) (fun x => [(1, .pointer (some ⟨b1, 0, none⟩)), (2, .pointer (some ⟨b2, 0, none⟩)), (3, .pointer (some ⟨b3, 0, none⟩)), (14, .slice a c.last.length cp), (15, .int .i64 (c.last.length : Int)), (16, .int .i64 (x.1 : Int))])
    (fun x s' => x.1 ≤ c.last.length ∧ Hp (fun _ => False) s [slA κ (.slice a c.last.length cp) 4 c.last.length (rcCells c.last)] [blkA b3 b3 (chCells { c with last := [] } x.2.2) 4, onA x.2.1 x.2.2 4 x.1 (rcCells (c.last.take x.1)), blkA b1 b1 (chCells c (.slice a c.last.length cp)) 4, blkA b2 b2 (chCells Ch.zero (.slice none 0 0)) 4] s')
    (fun x => c.last.length - x.1) ?_ (0, none, .slice none 0 0) (subK_ok (by refine ⟨rfl, rfl, rfl, rfl, rfl, rfl, trivial⟩)) ⟨Nat.zero_le _, hp0⟩
  clear hp0
  rintro ⟨i, κ3, w3⟩ s5 ⟨hi, hp⟩
  simp only at hi hp
  obtain ⟨a3, c3, rfl⟩ := (hp.slF (by repeat (first | exact Rm.here | apply Rm.there))).shape
  refine Sm.seqW ?_
  conv => whnf
  refine Sm.seqW ?_
  conv => whnf
  refine Br.mk (fun hc => ?_) (fun hc => ?_)
  · have hc : i < c.last.length := by have := of_decide_eq_true hc; omega
    conv => whnf
    refine Sm.seq (Sm.block ?_)
    refine Sm.seqW ?_
    conv => whnf
    obtain ⟨p, e1, e2⟩ := index_rc (hp.slR (by exact .here)) .i64 hc
    refine Om.of _ e1 ?_
    conv => whnf
    refine Om.of _ e2 ?_
    conv => whnf
    refine hp.alloc (cs := [.int .i64 0, .int .i64 0, .int .i64 0, .string ⟨#[]⟩]) (e := 4) rfl rfl rfl rfl rfl ?_
    clear hp e1 e2
    intro b5 s6 hp k6
    conv => whnf
    refine hp.storeW (vs := c.last[i].cells) rfl (by repeat (first | exact Rm.here | apply Rm.there)) (by rfl) rfl rfl rfl ?_
    clear hp k6
    intro s7 hp _
    conv => whnf
    refine Sm.ofW ?_
    conv => whnf
    (refine hp.load (by repeat (first | exact Has.here | apply Has.there | (apply Has.swap; repeat (first | exact HasR.here | apply HasR.there)))) (by rfl) rfl rfl rfl ?_; conv => whnf)
    refine hp.loadA (l := c.last[i].cells) (by repeat (first | exact Has.here | apply Has.there | (apply Has.swap; repeat (first | exact HasR.here | apply HasR.there)))) rfl (by rfl) rfl rfl ?_
    conv => whnf
    refine hp.rec1 c.last[i] ?_
    clear hp
    intro v8 b8 s8 hp k8
    conv => whnf
    have x8 : Sr s8 (some b8) v8 [c.last[i]] := Own.sl (hp.okF _ List.mem_cons_self)
    refine hp.app R71 Try.underlying71 rfl (by repeat (first | exact Rm.here | apply Rm.there)) (elems_sl x8) rfl (rcCells_one [c.last[i]]) (by simp only [List.length_singleton]; omega) ?_
    clear hp x8
    intro v9 κ9 s9 hp
    conv => whnf
    obtain ⟨a9, c9, rfl⟩ := (hp.slF (by repeat (first | exact Rm.here | apply Rm.there))).shape
    (refine hp.store (by repeat (first | exact Rm.here | apply Rm.there)) (by first | exact of_decide_eq_true rfl | (simp; done) | (simp; omega) | omega) rfl rfl rfl rfl ?_; intro s hp _; conv => whnf)
    refine Sm.ofW ?_
    conv => whnf
    have e6 : IntKind.i64.wrap ((i : Int) + 1) = ((i + 1 : Nat) : Int) := by rw [wi64 (by omega) (by omega)]; omega
    refine ⟨(i + 1, κ9, .slice a9 (i + 1) c9), by (show c.last.length - (i + 1) < c.last.length - i); omega, subK_ok (by refine ⟨rfl, rfl, rfl, rfl, rfl, congrArg (fun x => some (Value.int .i64 x)) e6, trivial⟩), hc, ?_⟩
    rw [← rcCells_append, ← List.take_succ_eq_append_getElem hc] at hp
    exact hp.pik (by repeat (first | exact Pik.nil | exact Pik.refl _ | exact Rm.here | apply Rm.there | apply Pik.cons))
  · have hc : i = c.last.length := by have := of_decide_eq_false hc; omega
    subst hc
    conv => whnf
    rw [List.take_of_length_le (Nat.le_refl _)] at hp
    refine Sm.seqW ?_
    conv => whnf
    refine hp.loadA (l := chCells c (.slice a3 c.last.length c3)) (by repeat (first | exact Has.here | apply Has.there | (apply Has.swap; repeat (first | exact HasR.here | apply HasR.there)))) rfl (by rfl) rfl rfl ?_
    conv => whnf
    refine hp.storeW (vs := chCells c (.slice a3 c.last.length c3)) rfl (by repeat (first | exact Rm.here | apply Rm.there)) (by rfl) rfl rfl rfl ?_
    clear hp
    intro s6 hp _
    conv => whnf
    refine Sm.ofW ?_
    conv => whnf
    refine hp.loadA (l := chCells c (.slice a3 c.last.length c3)) (by repeat (first | exact Has.here | apply Has.there | (apply Has.swap; repeat (first | exact HasR.here | apply HasR.there)))) rfl (by rfl) rfl rfl ?_
    conv => whnf
    exact ⟨hp.fr, _, rfl, hp.out (by repeat (first | exact Rm.here | apply Rm.there))⟩
theorem eq_rc21 (a b : Rc) : evEq Try.prog 10000 69 a.val b.val = some ((a.who == b.who) && ((a.verb == b.verb) && ((a.what == b.what) && (bs a.text == bs b.text)))) := by
  have e : ∀ p q u w : Bool, (a.who == b.who) = p → (a.verb == b.verb) = q → (a.what == b.what) = u → (bs a.text == bs b.text) = w → evEq Try.prog 10000 69 a.val b.val = some (p && (q && (u && w))) := by
    intro p q u w h1 h2 h3 h4
    conv => lhs; whnf
    rw [show Try.prog.stoodInHeld 69 = false by decide +kernel]
    show (match (some (a.who == b.who) : Option Bool) with | some true => (match (some (a.verb == b.verb) : Option Bool) with | some true => (match (some (a.what == b.what) : Option Bool) with | some true => (match (some (bs a.text == bs b.text) : Option Bool) with | some true => some true | some false => some false | none => none) | some false => some false | none => none) | some false => some false | none => none) | some false => some false | none => none) = _
    rw [h1, h2, h3, h4]
    cases p <;> cases q <;> cases u <;> cases w <;> rfl
  rw [e _ _ _ _ rfl rfl rfl rfl]
theorem bs_inj {a b : ByteArray} (h : bs a = bs b) : a = b := by rw [← mk_bs a, h, mk_bs b]
open Classical in
theorem rc_dec (a b : Rc) : ((a.who == b.who) && ((a.verb == b.verb) && ((a.what == b.what) && (bs a.text == bs b.text)))) = decide (a = b) := by
  obtain ⟨a1, a2, a3, a4⟩ := a
  obtain ⟨b1, b2, b3, b4⟩ := b
  rw [Bool.eq_iff_iff]
  simp only [Bool.and_eq_true, beq_iff_eq, decide_eq_true_eq, Rc.mk.injEq]
  constructor
  · rintro ⟨h1, h2, h3, h4⟩; exact ⟨h1, h2, h3, bs_inj h4⟩
  · rintro ⟨h1, h2, h3, h4⟩; subst h4; exact ⟨h1, h2, h3, rfl⟩
open Classical in
theorem rc_ne21 (a b : Rc) (c : Bool) : evBin Try.prog .neq 69 c a.val b.val = some (.bool (!decide (a = b))) := by
  have := eq_rc21 a b
  rw [rc_dec] at this
  have hg : Try.prog.eqGuardType Try.prog.depth 69 = false := by decide +kernel
  show (match !(Try.prog.eqGuardType Try.prog.depth 69) with | false => none | true => (match evEq Try.prog 10000 69 a.val b.val with | some b => some (Value.bool (!b)) | none => none)) = _
  rw [hg, this]; rfl
theorem same_spec {s : St} (wf : WF s) {c d : Ch} {κ κ' : Option Nat} {v w : Value} (hv : Sr s κ v c.last) (hw : Sr s κ' w d.last) (hl : c.last.length ≤ 1000) :
    Cw Try.prog 37 [chVal c v, chVal d w] s fun r s' => K0 s s' ∧ ∃ b, r = .bool b ∧ (b = true ↔ c = d) := by
  have hp : Hp (fun _ => False) s [slA κ v 4 c.last.length (rcCells c.last), slA κ' w 4 d.last.length (rcCells d.last)] [] s := Hp.start _ wf _ (by simp; exact ⟨hv, hw⟩)
  obtain ⟨a, cp, rfl⟩ := hv.shape
  obtain ⟨a', cp', rfl⟩ := hw.shape
  clear hv hw
  refine Cw.enterS Try.func37 rfl rfl ?_
  refine Sm.seqW ?_
  conv => whnf
  refine hp.var (cs := chCells c (.slice a c.last.length cp)) (e := 4) rfl rfl ?_
  clear hp
  intro b1 s1 hp _
  conv => whnf
  refine hp.var (cs := chCells d (.slice a' d.last.length cp')) (e := 4) rfl rfl ?_
  clear hp
  intro b2 s2 hp _
  conv => whnf
  refine Sm.seq ?_
  refine Sm.seqC (fun e L' s' => e = .normal ∧ s' = s2 ∧ ∃ q, Sub [(2, .pointer (some ⟨b1, 0, none⟩)), (3, .pointer (some ⟨b2, 0, none⟩)), (33, .bool q)] L' ∧ (q = false ↔ c.count = d.count ∧ c.head = d.head ∧ c.base = d.base ∧ c.last.length = d.last.length)) ?_ ?_
  · conv => whnf
    (refine hp.load (by repeat (first | exact Has.here | apply Has.there | (apply Has.swap; repeat (first | exact HasR.here | apply HasR.there)))) (by rfl) rfl rfl rfl ?_; conv => whnf)
    (refine hp.load (by repeat (first | exact Has.here | apply Has.there | (apply Has.swap; repeat (first | exact HasR.here | apply HasR.there)))) (by rfl) rfl rfl rfl ?_; conv => whnf)
    cases hx : (c.count != d.count) <;> cases hy : ((c.head.toNat : Int) != (d.head.toNat : Int)) <;> cases hz : ((c.base.toNat : Int) != (d.base.toNat : Int)) <;> cases hu : ((c.last.length : Int) != (d.last.length : Int))
    all_goals
      repeat (first
        | (refine Br.yes (by first | with_reducible rfl | with_reducible assumption) ?_; conv => whnf)
        | (refine Br.no (by first | with_reducible rfl | with_reducible assumption) ?_; conv => whnf)
        | (refine hp.load (by repeat (first | exact Has.here | apply Has.there | (apply Has.swap; repeat (first | exact HasR.here | apply HasR.there)))) (by rfl) rfl rfl rfl ?_; conv => whnf))
      refine ⟨rfl, rfl, _, subK_ok (by first | exact ⟨rfl, rfl, congrArg (fun b => some (Value.bool b)) hu, trivial⟩ | exact ⟨rfl, rfl, rfl, trivial⟩), ?_⟩
      simp only [bne_eq_false_iff_eq, bne_iff_ne, ne_eq] at hx hy hz hu
      have hy' : c.head = d.head ↔ (c.head.toNat : Int) = (d.head.toNat : Int) := by rw [← BitVec.toNat_inj]; omega
      have hz' : c.base = d.base ↔ (c.base.toNat : Int) = (d.base.toNat : Int) := by rw [← BitVec.toNat_inj]; omega
      rw [hy', hz']
      constructor
      · intro h
        first | omega | cases h
      · intro h
        first | rfl | omega
  rintro e L' s' ⟨rfl, rfl, q, hs, hq⟩
  refine Sm.weak _ hs ?_
  clear hs
  have hh : Hp (fun _ => False) s [slA κ (.slice a c.last.length cp) 4 c.last.length (rcCells c.last), slA κ' (.slice a' d.last.length cp') 4 d.last.length (rcCells d.last)] [blkA b2 b2 (chCells d (.slice a' d.last.length cp')) 4, blkA b1 b1 (chCells c (.slice a c.last.length cp)) 4] s' := hp
  refine Sm.ofW ?_
  conv => whnf
  cases q with
  | true =>
    refine Br.yes rfl ?_
    conv => whnf
    exact ⟨⟨hp.fr, false, rfl, fun h => (by cases h), fun h => by
      have := hq.2 ⟨by rw [h], by rw [h], by rw [h], by rw [h]⟩
      cases this⟩⟩
  | false =>
    obtain ⟨q1, q2, q3, q4⟩ := hq.1 rfl
    refine Br.no rfl ?_
    conv => whnf
    refine Sm.seq ?_
    refine Sm.seqW ?_
    conv => whnf
    (refine hp.load (by repeat (first | exact Has.here | apply Has.there | (apply Has.swap; repeat (first | exact HasR.here | apply HasR.there)))) (by rfl) rfl rfl rfl ?_; conv => whnf)
    refine Sm.block ?_
    refine Sm.loop ?_
    refine Lp.ofS (α := Nat) (fun i => [(2, .pointer (some ⟨b1, 0, none⟩)), (3, .pointer (some ⟨b2, 0, none⟩)), (36, .int .i64 (c.last.length : Int)), (37, .int .i64 (i : Int))])
      (fun i s1' => s1' = s' ∧ i ≤ c.last.length ∧ c.last.take i = d.last.take i) (fun i => c.last.length - i) ?_ 0 (subK_ok (by refine ⟨rfl, rfl, rfl, rfl, trivial⟩)) ⟨rfl, Nat.zero_le _, rfl⟩
    rintro i s5 ⟨rfl, hi, heq⟩
    refine Sm.seqW ?_
    conv => whnf
    refine Sm.seqW ?_
    conv => whnf
    refine Br.mk (fun hc => ?_) (fun hc => ?_)
    · have hc : i < c.last.length := by have := of_decide_eq_true hc; omega
      have hd : i < d.last.length := by omega
      conv => whnf
      refine Sm.seq (Sm.block ?_)
      refine Sm.seqW ?_
      conv => whnf
      refine Sm.ofW ?_
      conv => whnf
      refine ⟨[0, 1, 0, 7, 15, 0, 32, 0, 224, 480, 1023], by decide +kernel, by decide +kernel, ?_⟩
      conv => whnf
      (refine hp.load (by repeat (first | exact Has.here | apply Has.there | (apply Has.swap; repeat (first | exact HasR.here | apply HasR.there)))) (by rfl) rfl rfl rfl ?_; conv => whnf)
      obtain ⟨p1, e1, e2⟩ := index_rcT R71 Try.underlying69 (hp.slR .here) .i64 hc
      refine Om.of _ e1 ?_
      conv => whnf
      refine Om.of _ e2 ?_
      conv => whnf
      (refine hp.load (by repeat (first | exact Has.here | apply Has.there | (apply Has.swap; repeat (first | exact HasR.here | apply HasR.there)))) (by rfl) rfl rfl rfl ?_; conv => whnf)
      obtain ⟨p2, e3, e4⟩ := index_rcT R71 Try.underlying69 (hp.slR (.there .here)) .i64 hd
      refine Om.of _ e3 ?_
      conv => whnf
      refine Om.of _ e4 ?_
      conv => whnf
      refine Om.of _ (rc_ne21 _ _ _) ?_
      conv => whnf
      refine Br.mk (fun hr => ?_) (fun hr => ?_)
      · have hr : c.last[i] ≠ d.last[i] := by simpa using hr
        conv => whnf
        exact ⟨hp.fr, false, rfl, fun h => (by cases h), fun h => absurd (by subst h; rfl) hr⟩
      · have hr : c.last[i] = d.last[i] := by simpa using hr
        conv => whnf
        refine Sm.ofW ?_
        conv => whnf
        have e6 : IntKind.i64.wrap ((i : Int) + 1) = ((i + 1 : Nat) : Int) := by rw [wi64 (by omega) (by omega)]; omega
        refine ⟨i + 1, by (show c.last.length - (i + 1) < c.last.length - i); omega, subK_ok (by refine ⟨rfl, rfl, rfl, congrArg (fun x => some (Value.int .i64 x)) e6, trivial⟩), rfl, hc, ?_⟩
        rw [List.take_succ_eq_append_getElem hc, List.take_succ_eq_append_getElem hd, heq, hr]
    · have hc : i = c.last.length := by have := of_decide_eq_false hc; omega
      subst hc
      conv => whnf
      refine Sm.ofW ?_
      conv => whnf
      refine ⟨hp.fr, true, rfl, fun _ => ?_, fun _ => rfl⟩
      rw [List.take_of_length_le (Nat.le_refl _), List.take_of_length_le (by omega)] at heq
      obtain ⟨c1, c2, c3, c4⟩ := c
      obtain ⟨d1, d2, d3, d4⟩ := d
      simp only at q1 q2 q3 heq
      subst q1 q2 q3 heq
      rfl
end Go.Ev
