/- Memory that is held in parts: what a step does not touch stays, without a word. No condition. -/
import Derived.Test.YtmhfkejbahacoaaGreatDoorKViewHoldsS4
noncomputable section
namespace Go.Ev
open Go.RowKit
variable [Lk]
set_option linter.unusedSectionVars false
set_option linter.unusedVariables false

/-- A part of the memory: the families that it is of, what is so of it. -/
structure At where
  foot : Nat → Prop
  ok : St → Prop
  keep : ∀ (X : Nat → Prop) (s s' : St), Kp X s s' → (∀ k, foot k → ¬ X k) → ok s → ok s'
  lt : ∀ s, WF s → ok s → ∀ k, foot k → k < s.next
  lo : ∀ (s : St) (m : Nat), ok s → ok ⟨s.heap, s.fams, s.tys, s.next, m⟩

/-- s came of s0, of which only the families X were written; R is only read, F is the run's to write. -/
structure Hp (X : Nat → Prop) (s0 : St) (R F : List At) (s : St) : Prop where
  fr : Kp X s0 s
  okF : ∀ a ∈ F, a.ok s
  okR : ∀ a ∈ R, a.ok s
  own : ∀ a ∈ F, ∀ k, a.foot k → X k ∨ s0.next ≤ k
  dj : F.Pairwise fun a b => ∀ k, a.foot k → ¬ b.foot k
  dr : ∀ a ∈ F, ∀ r ∈ R, ∀ k, a.foot k → ¬ r.foot k
theorem Hp.wf {X : Nat → Prop} {s0 s : St} {R F : List At} (h : Hp X s0 R F s) : WF s := h.fr.wf

inductive HasR : At → List At → Prop
  | here {a : At} {R : List At} : HasR a (a :: R)
  | there {a b : At} {R : List At} : HasR a R → HasR a (b :: R)
inductive Has : At → List At → List At → Prop
  | here {a : At} {F R : List At} : Has a (a :: F) R
  | there {a b : At} {F R : List At} : Has a F R → Has a (b :: F) R
  | swap {a : At} {R : List At} : HasR a R → Has a [] R
inductive Rm : At → List At → List At → Prop
  | here {a : At} {F : List At} : Rm a (a :: F) F
  | there {a b : At} {F F' : List At} : Rm a F F' → Rm a (b :: F) (b :: F')
inductive Pik : List At → List At → Prop
  | nil {F : List At} : Pik [] F
  | cons {a : At} {W F G : List At} : Rm a F G → Pik W G → Pik (a :: W) F

theorem HasR.mem {a : At} {R : List At} (h : HasR a R) : a ∈ R := by
  induction h with
  | here => exact List.mem_cons_self
  | there _ ih => exact List.mem_cons_of_mem _ ih
theorem Has.mem {a : At} {F R : List At} (h : Has a F R) : a ∈ F ∨ a ∈ R := by
  induction h with
  | here => exact .inl List.mem_cons_self
  | there _ ih =>
    rcases ih with h | h
    · exact .inl (List.mem_cons_of_mem _ h)
    · exact .inr h
  | swap h => exact .inr h.mem
theorem Rm.sub {a : At} {F G : List At} (h : Rm a F G) : a ∈ F ∧ ∀ x ∈ G, x ∈ F := by
  induction h with
  | here => exact ⟨List.mem_cons_self, fun x hx => List.mem_cons_of_mem _ hx⟩
  | there _ ih =>
    refine ⟨List.mem_cons_of_mem _ ih.1, fun x hx => ?_⟩
    rcases List.mem_cons.1 hx with g | g
    · subst g; exact List.mem_cons_self
    · exact List.mem_cons_of_mem _ (ih.2 x g)
theorem Pik.skip {W F : List At} {b : At} (h : Pik W F) : Pik W (b :: F) := by
  induction h with
  | nil => exact .nil
  | cons r _ ih => exact .cons (.there r) ih
theorem Pik.refl : ∀ F : List At, Pik F F
  | [] => .nil
  | _ :: F => .cons .here (Pik.refl F)
abbrev Dj (a b : At) : Prop := ∀ k, a.foot k → ¬ b.foot k
theorem Dj.symm {a b : At} (h : Dj a b) : Dj b a := fun k h1 h2 => h k h2 h1
theorem Rm.dj {a : At} {F G : List At} (h : Rm a F G) (hp : F.Pairwise Dj) : (∀ x ∈ G, Dj a x) ∧ G.Pairwise Dj := by
  induction h with
  | here =>
    rw [List.pairwise_cons] at hp
    exact hp
  | there h ih =>
    rw [List.pairwise_cons] at hp
    obtain ⟨h1, h2⟩ := ih hp.2
    refine ⟨fun x hx => ?_, ?_⟩
    · rcases List.mem_cons.1 hx with g | g
      · subst g; exact (hp.1 _ h.sub.1).symm
      · exact h1 x g
    · rw [List.pairwise_cons]
      exact ⟨fun x hx => hp.1 x (h.sub.2 x hx), h2⟩
theorem Pik.sub {W F : List At} (h : Pik W F) : ∀ x ∈ W, x ∈ F := by
  induction h with
  | nil => intro x hx; cases hx
  | cons h _ ih =>
    intro x hx
    rcases List.mem_cons.1 hx with g | g
    · subst g; exact h.sub.1
    · exact h.sub.2 x (ih x g)
theorem Pik.dj {W F : List At} (h : Pik W F) (hp : F.Pairwise Dj) : W.Pairwise Dj := by
  induction h with
  | nil => exact .nil
  | cons h k ih =>
    obtain ⟨h1, h2⟩ := h.dj hp
    rw [List.pairwise_cons]
    exact ⟨fun x hx => h1 x (k.sub x hx), ih h2⟩

variable {X : Nat → Prop} {s0 s s' s1 : St} {R F F' G : List At} {a a' : At}
theorem Hp.at (h : Hp X s0 R F s) (m : Has a F R) : a.ok s := by
  rcases m.mem with g | g
  · exact h.okF a g
  · exact h.okR a g
theorem Hp.start (X : Nat → Prop) (wf : WF s) (R : List At) (h : ∀ a ∈ R, a.ok s) : Hp X s R [] s := ⟨.refl wf, fun a h => by (cases h), h, fun a h => by (cases h), .nil, fun a h => by (cases h)⟩
theorem Hp.k0 (h : Hp X s0 R F s) (k : K0 s s') : Hp X s0 R F s' :=
  ⟨h.fr.then0 k, fun a m => a.keep _ _ _ k (fun _ _ h => h) (h.okF a m), fun a m => a.keep _ _ _ k (fun _ _ h => h) (h.okR a m), h.own, h.dj, h.dr⟩
/-- One part is changed. -/
theorem Hp.upd (h : Hp X s0 R F s) (r : Rm a F G) {Y : Nat → Prop} (k : Kp Y s s') (hY : ∀ j, Y j → a.foot j ∨ s.next ≤ j) (ok : a'.ok s') (hf : ∀ j, a'.foot j → a.foot j ∨ s.next ≤ j) : Hp X s0 R (a' :: G) s' := by
  have hnx := h.fr.next
  have lt : ∀ x ∈ F, ∀ j, x.foot j → j < s.next := fun x hx => x.lt s h.wf (h.okF x hx)
  have ltR : ∀ x ∈ R, ∀ j, x.foot j → j < s.next := fun x hx => x.lt s h.wf (h.okR x hx)
  obtain ⟨d1, d2⟩ := r.dj h.dj
  refine ⟨h.fr.trans k fun j hj => ?_, fun x hx => ?_, fun x hx => ?_, fun x hx j hj => ?_, ?_, fun x hx r' hr j hj => ?_⟩
  · rcases hY j hj with g | g
    · exact h.own a r.sub.1 j g
    · exact .inr (by omega)
  · rcases List.mem_cons.1 hx with rfl | g1
    · exact ok
    · refine x.keep _ _ _ k (fun j hj hy => ?_) (h.okF x (r.sub.2 x g1))
      rcases hY j hy with g | g
      · exact d1 x g1 j g hj
      · have := lt x (r.sub.2 x g1) j hj; omega
  · refine x.keep _ _ _ k (fun j hj hy => ?_) (h.okR x hx)
    rcases hY j hy with g | g
    · exact h.dr a r.sub.1 x hx j g hj
    · have := ltR x hx j hj; omega
  · rcases List.mem_cons.1 hx with rfl | g1
    · rcases hf j hj with g | g
      · exact h.own a r.sub.1 j g
      · exact .inr (by omega)
    · exact h.own x (r.sub.2 x g1) j hj
  · rw [List.pairwise_cons]
    refine ⟨fun x hx j hj hxj => ?_, d2⟩
    rcases hf j hj with g | g
    · exact d1 x hx j g hxj
    · have := lt x (r.sub.2 x hx) j hxj; omega
  · rcases List.mem_cons.1 hx with rfl | g1
    · intro hrj
      rcases hf j hj with g | g
      · exact h.dr a r.sub.1 r' hr j g hrj
      · have := ltR r' hr j hrj; omega
    · exact h.dr x (r.sub.2 x g1) r' hr j hj
/-- A new part. -/
theorem Hp.push (h : Hp X s0 R F s) (k : K0 s s') (ok : a.ok s') (hf : ∀ j, a.foot j → s.next ≤ j) : Hp X s0 R (a :: F) s' := by
  have hnx := h.fr.next
  have h2 := h.k0 k
  refine ⟨h2.fr, fun x hx => ?_, h2.okR, fun x hx j hj => ?_, ?_, fun x hx r hr j hj hrj => ?_⟩
  · rcases List.mem_cons.1 hx with rfl | g
    · exact ok
    · exact h2.okF x g
  · rcases List.mem_cons.1 hx with rfl | g
    · exact .inr (by have := hf j hj; omega)
    · exact h.own x g j hj
  · rw [List.pairwise_cons]
    refine ⟨fun x hx j hj hxj => ?_, h.dj⟩
    have := hf j hj
    have := x.lt s h.wf (h.okF x hx) j hxj
    omega
  · rcases List.mem_cons.1 hx with rfl | g
    · have := hf j hj
      have := r.lt s h.wf (h.okR r hr) j hrj
      omega
    · exact h.dr x g r hr j hj hrj
theorem Hp.pik (h : Hp X s0 R F s) (p : Pik G F) : Hp X s0 R G s :=
  ⟨h.fr, fun x hx => h.okF x (p.sub x hx), h.okR, fun x hx => h.own x (p.sub x hx), p.dj h.dj, fun x hx => h.dr x (p.sub x hx)⟩
/-- A part is no more written. -/
theorem Hp.ice (h : Hp X s0 R F s) (r : Rm a F G) : Hp X s0 (a :: R) G s := by
  obtain ⟨d1, d2⟩ := r.dj h.dj
  refine ⟨h.fr, fun x hx => h.okF x (r.sub.2 x hx), fun x hx => ?_, fun x hx => h.own x (r.sub.2 x hx), d2, fun x hx y hy j hj hyj => ?_⟩
  · rcases List.mem_cons.1 hx with rfl | g
    · exact h.okF _ r.sub.1
    · exact h.okR x g
  · rcases List.mem_cons.1 hy with rfl | g
    · exact d1 x hx j hyj hj
    · exact h.dr x (r.sub.2 x hx) y g j hj hyj
/-- Something more of what is only read. -/
theorem Hp.view (h : Hp X s0 R F s) (m : HasR a R) (ok : a'.ok s) (hf : ∀ j, a'.foot j → a.foot j) : Hp X s0 (a' :: R) F s :=
  ⟨h.fr, h.okF, fun x hx => by
    rcases List.mem_cons.1 hx with rfl | g
    · exact ok
    · exact h.okR x g, h.own, h.dj, fun x hx y hy j hj hyj => by
    rcases List.mem_cons.1 hy with rfl | g
    · exact h.dr x hx a m.mem j hj (hf j hyj)
    · exact h.dr x hx y g j hj hyj⟩
/-- The same part, seen otherwise. -/
theorem Hp.as (h : Hp X s0 R F s) (r : Rm a F G) (ok : a.ok s → a'.ok s) (hf : ∀ j, a'.foot j → a.foot j) : Hp X s0 R (a' :: G) s :=
  h.upd r (Y := fun _ => False) (.refl h.wf) (fun _ h => h.elim) (ok (h.okF _ r.sub.1)) fun j hj => .inl (hf j hj)
theorem Hp.rst (h : Hp X s0 R F s) : Hp X s0 R F (reset s) :=
  ⟨h.fr.then0 (K0.rst h.wf), fun x hx => x.lo s _ (h.okF x hx), fun x hx => x.lo s _ (h.okR x hx), h.own, h.dj, h.dr⟩
theorem Hp.rl (h : Hp X s0 R F s) {R' : List At} (h1 : Hp X s0 R' F' s1) : Hp X s0 R' F' (relow s s1) := by
  refine ⟨?_, fun x hx => x.lo s1 _ (h1.okF x hx), fun x hx => x.lo s1 _ (h1.okR x hx), h1.own, h1.dj, h1.dr⟩
  have k := h1.fr
  refine ⟨k.wf0, ⟨k.wf.lt, k.wf.fam, ?_⟩, k.next, fun j b cs e hj hb => ⟨(k.blk j b cs e hj hb).ex⟩, fun b cs e hb => ⟨(k.ro b cs e hb).ex⟩, fun b es hj hb => ⟨(k.map b es hj hb).ex⟩, fun m g1 g2 g3 => ?_, fun j cs e t hj hb => ⟨(k.blt j cs e t hj hb).ex⟩, fun b t p hj hb => ⟨(k.it b t p hj hb).ex⟩⟩
  · have := k.wf.low
    simp only [relow]
    split <;> omega
  · have e1 := k.low m g1 g2 g3
    have e2 := h.fr.low m g1 g2 g3
    simp only [relow]
    split <;> omega
theorem Hp.dkW (h : Hp X s0 R F s) {R' : List At} (h1 : Hp X s0 R' F' s1) (hl : s1.low < s.next) {R1 R2 : St → Prop} (k : ∀ s2, Hp X s0 R' F' s2 → R2 s2) : Dk s s1 R1 R2 := ⟨.inr ⟨hl, k _ (h.rl h1)⟩⟩
theorem Hp.dkN (h : Hp X s0 R F s) {R' : List At} (h1 : Hp X s0 R' F' s1) (hk : K0 (reset s) s1) {R1 R2 : St → Prop} (k : ∀ s2, Hp X s0 R' F' s2 → R1 s2) : Dk s s1 R1 R2 := ⟨.inl ⟨hk.low_reset fun _ h => h.elim, k _ (h.rl h1)⟩⟩
theorem Hp.dkS (h : Hp X s0 R F s) {R1 R2 : St → Prop} (k : R1 s) : Dk s (reset s) R1 R2 := .same h.wf k
theorem Hp.dkA (h : Hp X s0 R F s) {R' : List At} (h1 : Hp X s0 R' F' s1) {R1 R2 : St → Prop} (k1 : ∀ s2, Hp X s0 R' F' s2 → R1 s2) (k2 : ∀ s2, Hp X s0 R' F' s2 → R2 s2) : Dk s s1 R1 R2 := .any (k1 _ (h.rl h1)) (k2 _ (h.rl h1))

/-! ### parts -/
theorem Blk.lo {s : St} {k b e : Nat} {cs : List Value} (h : Blk s k b cs e) (m : Nat) : Blk ⟨s.heap, s.fams, s.tys, s.next, m⟩ k b cs e := ⟨h.ex⟩
theorem Sl.lo {s : St} {κ : Option Nat} {v : Value} {e n : Nat} {cs : List Value} (h : Sl s κ v e n cs) (m : Nat) : Sl ⟨s.heap, s.fams, s.tys, s.next, m⟩ κ v e n cs := by
  rcases h.ex with ⟨h1, h2, h3, h4⟩ | ⟨b, off, c, C, h1, h2, h3, h4, h5⟩
  · exact ⟨.inl ⟨h1, h2, h3, h4⟩⟩
  · refine ⟨.inr ⟨b, off, c, C, h1, h2, h3, h4, ?_⟩⟩
    rcases h5 with ⟨k, h5, h6⟩ | ⟨h5, h6⟩
    · exact .inl ⟨k, h5, ⟨h6.ex⟩⟩
    · exact .inr ⟨h5, ⟨h6.ex⟩⟩
theorem Sl.lt {s : St} {κ : Option Nat} {v : Value} {e n : Nat} {cs : List Value} (wf : WF s) (h : Sl s κ v e n cs) : ∀ j, κ = some j → j < s.next := by
  intro j hj
  rcases h.ex with ⟨h1, h2, h3, h4⟩ | ⟨b, off, c, C, h1, h2, h3, h4, h5⟩
  · rw [h4] at hj; cases hj
  · rcases h5 with ⟨k, h5, h6⟩ | ⟨h5, h6⟩
    · rw [h5] at hj; injection hj with hj; subst hj
      have := h6.lt wf; omega
    · rw [h5] at hj; cases hj
theorem Own.lo {s : St} {k e n : Nat} {v : Value} {cs : List Value} (h : Own s k v e n cs) (m : Nat) : Own ⟨s.heap, s.fams, s.tys, s.next, m⟩ k v e n cs := by
  obtain ⟨b, h1, h2, h3⟩ := h.ex
  exact ⟨b, h1, ⟨h2.ex⟩, h3⟩
def blkA (k b : Nat) (cs : List Value) (e : Nat) : At where
  foot := fun j => j = k
  ok := fun s => Blk s k b cs e
  keep := fun _ _ _ hk hX h => hk.blk _ _ _ _ (hX k rfl) h
  lt := fun s wf h j hj => by subst hj; have := h.lt wf; omega
  lo := fun s m h => h.lo m
def slA (κ : Option Nat) (v : Value) (e n : Nat) (cs : List Value) : At where
  foot := fun j => κ = some j
  ok := fun s => Sl s κ v e n cs
  keep := fun _ _ _ hk hX h => h.keep hk hX
  lt := fun s wf h => h.lt wf
  lo := fun s m h => h.lo m
def ownA (k : Nat) (v : Value) (e n : Nat) (cs : List Value) : At where
  foot := fun j => j = k
  ok := fun s => Own s k v e n cs
  keep := fun _ _ _ hk hX h => h.keep hk (hX k rfl)
  lt := fun s wf h j hj => by subst hj; exact h.lt wf
  lo := fun s m h => h.lo m
/-- A slice of the run's own, or nil. -/
structure OwnO (s : St) (κ : Option Nat) (v : Value) (e n : Nat) (cs : List Value) : Prop where
  ex : (κ = none ∧ v = .slice none 0 0 ∧ n = 0 ∧ cs = []) ∨ ∃ k, κ = some k ∧ Own s k v e n cs
def onA (κ : Option Nat) (v : Value) (e n : Nat) (cs : List Value) : At where
  foot := fun j => κ = some j
  ok := fun s => OwnO s κ v e n cs
  keep := fun _ _ _ hk hX h => by
    rcases h.ex with g | ⟨k, g1, g2⟩
    · exact ⟨.inl g⟩
    · exact ⟨.inr ⟨k, g1, g2.keep hk (hX k g1)⟩⟩
  lt := fun s wf h j hj => by
    rcases h.ex with g | ⟨k, g1, g2⟩
    · rw [g.1] at hj; cases hj
    · rw [g1] at hj; injection hj with hj; subst hj; exact g2.lt wf
  lo := fun s m h => by
    rcases h.ex with g | ⟨k, g1, g2⟩
    · exact ⟨.inl g⟩
    · exact ⟨.inr ⟨k, g1, g2.lo m⟩⟩
theorem OwnO.sl {κ : Option Nat} {v : Value} {e n : Nat} {cs : List Value} (h : OwnO s κ v e n cs) : Sl s κ v e n cs := by
  rcases h.ex with ⟨rfl, rfl, rfl, rfl⟩ | ⟨k, rfl, g⟩
  · exact Sl.nil s e
  · exact g.sl
theorem OwnO.n {κ : Option Nat} {v : Value} {e n m : Nat} {cs : List Value} (wf : WF s) (h : OwnO s κ v e n cs) (hm : ∀ k, κ = some k → m ≤ k) : OwnN m s v e n cs := by
  rcases h.ex with ⟨rfl, rfl, rfl, rfl⟩ | ⟨k, rfl, g⟩
  · exact ⟨.inl ⟨rfl, rfl, rfl⟩⟩
  · exact g.n wf (hm k rfl)
/-- A result: a slice of the run's own. -/
theorem Hp.on (h : Hp X s0 R F s) (k : K0 s s') {v : Value} {e n : Nat} {cs : List Value} (o : OwnN s.next s' v e n cs) : ∃ κ, Hp X s0 R (onA κ v e n cs :: F) s' := by
  rcases o.ex with ⟨rfl, rfl, rfl⟩ | ⟨j, h1, h2, h3⟩
  · exact ⟨none, h.push k ⟨.inl ⟨rfl, rfl, rfl, rfl⟩⟩ fun j hj => by cases hj⟩
  · exact ⟨some j, h.push k ⟨.inr ⟨j, rfl, h3⟩⟩ fun i hi => by injection hi with hi; omega⟩
/-- What is answered: a slice of the run's own. -/
theorem Hp.out {κ : Option Nat} {v : Value} {e n : Nat} {cs : List Value} (h : Hp (fun _ => False) s0 R F s) (m : Rm (onA κ v e n cs) F G) : OwnN s0.next s v e n cs :=
  OwnO.n h.wf (h.okF _ m.sub.1) fun k hk => by
    rcases h.own _ m.sub.1 k hk with g | g
    · exact g.elim
    · exact g
theorem Hp.slF {κ : Option Nat} {v : Value} {e n : Nat} {cs : List Value} (h : Hp X s0 R F s) (m : Rm (onA κ v e n cs) F G) : Sl s κ v e n cs := OwnO.sl (h.okF _ m.sub.1)

/-! ### operations -/
section
variable {P : Program} {t : TypeId} {K : Value → Prop} {b off k e : Nat} {C C' : List Value} {v : Value} {i : TypeInfo} {d : TypeDesc}
theorem Hp.load (h : Hp X s0 R F s) (m : Has (blkA k b C e) F R) (hv : C[off]? = some v) (hu : P.underlying t = some d) (hi : P.info? t = some i) (hd : scalarD d = true) (hk : K v) :
    Om (evLoad P t (.pointer (some ⟨b, off, none⟩)) s) K := .of v (load_cell hu hi hd (Blk.rd (h.at m)) hv) hk
/-- Is a type a struct or an array? -/
def aggD : TypeDesc → Bool
  | .struct _ | .array _ _ => true
  | _ => false
theorem Hp.loadA (h : Hp X s0 R F s) (m : Has (blkA k b C e) F R) {l : List Value} (hi : P.info? t = some i) (hv : sl C off i.size = some l) (hu : P.underlying t = some d) (hd : aggD d = true) (hk : K (.agg l.toArray)) :
    Om (evLoad P t (.pointer (some ⟨b, off, none⟩)) s) K := by
  refine .of _ ?_ hk
  unfold evLoad
  simp only [Blk.rd (h.at m), hu, hi]
  cases d <;> first | (simp [aggD] at hd; done) | simp only [hv]
theorem write_low {b off : Nat} {vs : List Value} (wf : WF s) {k e : Nat} {C : List Value} (hb : Blk s k b C e) (h : s.write b off vs = some s') : s'.low < s.next ∧ s'.next = s.next := by
  have hlt := hb.lt wf
  obtain ⟨base, fl, h1, h2, h3⟩ := hb.ex
  unfold St.write at h
  simp only [h1, h2, Nat.beq_refl, Nat.ble_eq_true_of_le h3] at h
  split at h <;> first | contradiction | skip
  injection h with h
  subst h
  refine ⟨?_, rfl⟩
  simp only [touch]
  split <;> omega
theorem Hp.write (h : Hp X s0 R F s) {vs : List Value} (m : Rm (blkA k b C e) F G) (ho : off + vs.length ≤ C.length) :
    ∃ s', s.write b off vs = some s' ∧ Hp X s0 R (blkA k b (putAt C off vs) e :: G) s' ∧ s'.low < s.next := by
  have hb : Blk s k b C e := h.okF _ m.sub.1
  obtain ⟨s', g1, g2, g3, g4⟩ := write_kp (off := off) (vs := vs) h.wf hb ho
  exact ⟨s', g1, h.upd m g2 (fun j hj => .inl hj) g3 (fun j hj => .inl hj), (write_low h.wf hb g1).1⟩
theorem Hp.store {K : St → Prop} (h : Hp X s0 R F s) (m : Rm (blkA k b C e) F G) (ho : off < C.length) (hi : P.info? t = some i) (hs : i.size = 1) (hc : v.cells = #[v]) (h1 : v.oneCell' = true)
    (hk : ∀ s', Hp X s0 R (blkA k b (C.set off v) e :: G) s' → s'.low < s.next → K s') : Om (evStore P t (.pointer (some ⟨b, off, none⟩)) v s) K := by
  obtain ⟨s', g1, g2, g3⟩ := h.write (off := off) (vs := [v]) m (by simp only [List.length_singleton]; omega)
  refine .of s' ?_ (hk s' (by rw [← putAt_one v ho]; exact g2) g3)
  simp only [evStore, hi, hc, hs]
  simpa [h1] using g1
theorem Hp.storeA {K : St → Prop} (h : Hp X s0 R F s) {vs : List Value} {a : Array Value} (ha : a.toList = vs) (m : Rm (blkA k b C e) F G) (ho : off + vs.length ≤ C.length) (hi : P.info? t = some i) (hs : vs.length = i.size) (h1 : vs.all (·.oneCell') = true)
    (hk : ∀ s', Hp X s0 R (blkA k b (putAt C off vs) e :: G) s' → s'.low < s.next → K s') : Om (evStore P t (.pointer (some ⟨b, off, none⟩)) (.agg a) s) K := by
  subst ha
  obtain ⟨s', g1, g2, g3⟩ := h.write m ho
  refine .of s' ?_ (hk s' g2 g3)
  have hc : (Value.agg a).cells = a := rfl
  rw [Array.length_toList] at hs
  simp only [evStore, hi, hc, hs, Nat.beq_refl, h1]
  exact g1
/-- A struct is written over a whole block. -/
theorem Hp.storeW {K : St → Prop} (h : Hp X s0 R F s) {vs : List Value} {a : Array Value} (ha : a.toList = vs) (m : Rm (blkA k b C e) F G) (ho : vs.length = C.length) (hi : P.info? t = some i) (hs : vs.length = i.size) (h1 : vs.all (·.oneCell') = true)
    (hk : ∀ s', Hp X s0 R (blkA k b vs e :: G) s' → s'.low < s.next → K s') : Om (evStore P t (.pointer (some ⟨b, 0, none⟩)) (.agg a) s) K :=
  h.storeA (off := 0) ha m (by omega) hi hs h1 fun s' h2 => hk s' (by rw [putAt_all ho] at h2; exact h2)
theorem Hp.var {K : Value × St → Prop} (h : Hp X s0 R F s) {cs : List Value} (hv : v.cells.toList = cs) (he : eszOf P t = some e)
    (hk : ∀ b s', Hp X s0 R (blkA b b cs e :: F) s' → K0 s s' → K (.pointer (some ⟨b, 0, none⟩), s')) : Om (evVar P t v s) K := by
  obtain ⟨g1, g2⟩ := new_kp h.wf cs e
  refine .of (.pointer (some ⟨s.next, 0, none⟩), s.new cs e (t + 1)) ?_ (hk _ _ (h.push g1 g2 fun j hj => by subst hj; exact Nat.le_refl _) g1)
  unfold evVar
  rw [he, hv]
theorem Hp.alloc {K : Value × St → Prop} (h : Hp X s0 R F s) (hi : P.info? t = some i) {z : Value} (hz : i.zero = some z) (hc : closedV 6 z = true) {cs : List Value} (hv : z.cells.toList = cs) (he : eszOf P t = some e)
    (hk : ∀ b s', Hp X s0 R (blkA b b cs e :: F) s' → K0 s s' → K (.pointer (some ⟨b, 0, none⟩), s')) : Om (evAlloc P t s) K := by
  obtain ⟨v, hv, k⟩ := (h.var (P := P) (t := t) hv he hk).out
  refine .of v ?_ k
  unfold evAlloc
  simp only [hi, hz, hc, hv]
/-- A call that writes nothing old. -/
theorem Hp.call {g : Nat} {args : List Value} {K Post : Value → St → Prop} (h : Hp X s0 R F s) (c : Cw P g args s fun v s' => K0 s s' ∧ Post v s') (k : ∀ v s', Post v s' → Hp X s0 R F s' → K0 s s' → K v s') : Cw P g args s K :=
  c.mono fun v s' ⟨h1, h2⟩ => k v s' h2 (h.k0 h1) h1
/-- A call that writes nothing old and yields a slice. -/
theorem Hp.callO {g : Nat} {args : List Value} {K : Value → St → Prop} {e n : Nat} {cs : List Value} (h : Hp X s0 R F s) (c : Cw P g args s fun v s' => K0 s s' ∧ OwnN s.next s' v e n cs) (k : ∀ v κ s', Hp X s0 R (onA κ v e n cs :: F) s' → K0 s s' → K v s') : Cw P g args s K :=
  c.mono fun v s' ⟨h1, h2⟩ => by
    obtain ⟨κ, h3⟩ := h.on h1 h2
    exact k v κ s' h3 h1
theorem Hp.one {K : Value × St → Prop} (h : Hp X s0 R F s) {et by_ : Nat} {z x : Value} (T : SlT P t et 1 by_ z) (hx : x.cells = #[x]) (hk : ∀ v b s', Hp X s0 R (ownA b v 1 1 [x] :: F) s' → K0 s s' → K (v, s')) : Om (evBuildSlice P t 1 [(0, x)] s) K := by
  obtain ⟨v, s', h1, h2, h3⟩ := buildSlice1 T h.wf hx
  exact .of _ h1 (hk _ _ _ (h.push h3 h2 fun j hj => by subst hj; exact Nat.le_refl _) h3)
theorem Hp.mks {K : Value × St → Prop} (h : Hp X s0 R F s) {et by_ : Nat} {z : Value} (T : SlT P t et 1 by_ z) (hz : z.cells = #[z]) {k1 k2 : IntKind} {l c : Int} (n : Nat) (hl : l = (n : Int)) (hc : c = (n : Int)) (hn : by_ * n ≤ 281474976710656)
    (hk : ∀ b s', Hp X s0 R (blkA b b (List.replicate n z) 1 :: F) s' → K0 s s' → K (.slice (some ⟨b, 0, none⟩) n n, s')) : Om (evMakeSlice P t (.int k1 l) (.int k2 c) s) K := by
  subst hl hc
  obtain ⟨v, s', h1, h2, h3⟩ := make_one T h.wf hz k1 k2 hn
  obtain ⟨b, rfl, h4, h5⟩ := h2.ex
  have hb : b = s.next := by
    obtain ⟨i, hi1, hi2, hi3, hi4⟩ := T.hi
    have e1 : zeros z.cells.toList (n * 1) = List.replicate n z := by rw [hz, Nat.mul_one]; exact zeros_one z n
    have h1' : (match P.underlying t, Value.int k1 (.ofNat n), Value.int k2 (.ofNat n) with
    | some (.slice e), .int _ (.ofNat l), .int _ (.ofNat c) => match P.info? e with
      | some i => match i.zero with
        | some z => match closedV 6 z, Nat.beq z.cells.size i.size, Nat.blt 0 i.size, Nat.ble l c, Nat.ble c 281474976710656, Nat.ble (i.bytes * c) 281474976710656 with
          | true, true, true, true, true, true => some (Value.slice (some ⟨s.next, 0, none⟩) l c, s.new (zeros z.cells.toList (c * i.size)) i.size (e + 1))
          | _, _, _, _, _, _ => none
        | none => none
      | none => none
    | _, _, _ => none) = some (.slice (some ⟨b, 0, none⟩) n n, s') := h1
    rw [T.hu] at h1'
    simp only [hi1, hi4] at h1'
    split at h1' <;> first | contradiction | skip
    simp only [Option.some.injEq, Prod.mk.injEq, Value.slice.injEq, Addr.mk.injEq] at h1'
    exact h1'.1.1.1.symm
  subst hb
  exact .of _ h1 (hk _ _ (h.push h3 h4 fun j hj => by subst hj; exact Nat.le_refl _) h3)
/-- What is appended to a slice of the run's own, or to nil. -/
theorem Hp.app {K : Value × St → Prop} (h : Hp X s0 R F s) {κ : Option Nat} {et sz by_ u n : Nat} {z : Value} {cs : List Value} (T : SlT P t et sz by_ z) (hd : P.underlying u = some d) (hni : isIntDesc d = false) {x : Value} {m : Nat} {new : List Value} (r : Rm (onA κ v sz n cs) F G)
    (hx : elemsOf s sz x = some (m, new)) (hl : new.length = m * sz) (h1 : new.all (·.oneCell') = true) (hr : (n + m + (n + m) / 4 + 1024) * by_ ≤ 281474976710656)
    (hk : ∀ v' κ' s', Hp X s0 R (onA κ' v' sz (n + m) (cs ++ new) :: G) s' → K (v', s')) : Om (evAp P t u v x s) K := by
  have o : OwnO s κ v sz n cs := h.okF _ r.sub.1
  rcases o.ex with ⟨rfl, rfl, rfl, rfl⟩ | ⟨k, rfl, oo⟩
  · by_cases hm : m = 0
    · subst hm
      have : new = [] := List.length_eq_zero_iff.1 (by simpa using hl)
      subst this
      exact .of _ (append_nil0 T hd hni hx) (hk _ none _ (h.upd r (Y := fun _ => False) (.refl h.wf) (fun _ h => h.elim) ⟨.inl ⟨rfl, rfl, rfl, rfl⟩⟩ (fun j hj => by cases hj)))
    · obtain ⟨v', s', g1, g2, g3⟩ := append_nil T hd hni h.wf hx hl h1 (by rw [Nat.zero_add] at hr; exact hr) hm
      refine .of _ g1 (hk _ (some s.next) _ (h.upd r g3 (fun _ h => h.elim) ⟨.inr ⟨_, rfl, ?_⟩⟩ (fun j hj => by (injection hj with hj); subst hj; exact .inr (Nat.le_refl _))))
      rw [Nat.zero_add, List.nil_append]; exact g2
  · obtain ⟨v', s', g1, g2, g3⟩ := append_own T hd hni h.wf oo hx hl h1 hr
    exact .of _ g1 (hk _ (some k) _ (h.upd r g3 (fun j hj => .inl (by subst hj; rfl)) ⟨.inr ⟨_, rfl, g2⟩⟩ (fun j hj => .inl hj)))
end

theorem Hp.blk {k b e : Nat} {C : List Value} (h : Hp X s0 R F s) (m : Has (blkA k b C e) F R) : Blk s k b C e := h.at m
theorem Hp.slR {κ : Option Nat} {v : Value} {e n : Nat} {cs : List Value} (h : Hp X s0 R F s) (m : HasR (slA κ v e n cs) R) : Sl s κ v e n cs := h.okR _ m.mem
/-- A result becomes something that is only read. -/
theorem Hp.iceO {κ : Option Nat} {v : Value} {e n : Nat} {cs : List Value} (h : Hp X s0 R F s) (r : Rm (onA κ v e n cs) F G) : Hp X s0 (slA κ v e n cs :: R) G s := by
  have h2 := h.ice r
  have h3 := h2.view (a' := slA κ v e n cs) HasR.here (OwnO.sl (h2.okR _ List.mem_cons_self)) fun j hj => hj
  exact ⟨h3.fr, h3.okF, fun x hx => h3.okR x (by
    rcases List.mem_cons.1 hx with g | g
    · subst g; exact List.mem_cons_self
    · exact List.mem_cons_of_mem _ (List.mem_cons_of_mem _ g)), h3.own, h3.dj, fun x hx r' hr => h3.dr x hx r' (by
    rcases List.mem_cons.1 hr with g | g
    · subst g; exact List.mem_cons_self
    · exact List.mem_cons_of_mem _ (List.mem_cons_of_mem _ g))⟩
theorem idx_at {P : Program} {t et sz by_ : Nat} {z : Value} (T : SlT P t et sz by_ z) {b off n c i : Nat} (k : IntKind) (hi : i < n) :
    evIndexAddr P t (.slice (some ⟨b, off, none⟩) n c) (.int k (i : Int)) = some (.pointer (some ⟨b, off + i * sz, none⟩)) := by
  obtain ⟨j, hi1, hi2, hi3, hi4⟩ := T.hi
  show (match P.underlying t, Value.slice (some ⟨b, off, none⟩) n c, Value.int k (.ofNat i) with
    | some (.slice e), .slice (some a) n _, .int _ (.ofNat i) => match Nat.blt i n, P.info? e with
      | true, some j => some (Value.pointer (some ⟨a.block, a.off + i * j.size, none⟩))
      | _, _ => none
    | some (.array n e), .pointer (some a), .int _ (.ofNat i) => match Nat.blt i n, P.info? e with
      | true, some j => some (Value.pointer (some ⟨a.block, a.off + i * j.size, none⟩))
      | _, _ => none
    | _, _, _ => none) = _
  rw [T.hu]
  simp only [blt_of hi, hi1, hi2]
/-- A block, seen as the slice of all of it. -/
theorem Hp.blkSl {k b e n : Nat} {C : List Value} (h : Hp X s0 R F s) (m : Has (blkA k b C e) F R) (hl : C.length = n * e) : Sl s (some k) (.slice (some ⟨b, 0, none⟩) n n) e n C := Own.sl ⟨b, rfl, h.blk m, hl⟩
/-- A text becomes bytes of the run's own. -/
theorem Hp.bytesOf {P : Program} {src dst e8 : Nat} (h : Hp X s0 R F s) (h1 : P.underlying src = some .string) (h2 : P.underlying dst = some (.slice e8)) (h3 : P.underlying e8 = some (.int .u8)) (t : ByteArray) {K : Value × St → Prop}
    (k : ∀ b s', Hp X s0 R (blkA b b (byteVals (bs t)) 1 :: F) s' → K0 s s' → K (.slice (some ⟨b, 0, none⟩) (bs t).length (bs t).length, s')) : Om (evConvMem P src dst (.string t) s) K := by
  obtain ⟨g1, g2⟩ := new_kp h.wf (byteVals (bs t)) 1
  refine .of (.slice (some ⟨s.next, 0, none⟩) (bs t).length (bs t).length, s.new (byteVals (bs t)) 1 (e8 + 1)) ?_ (k _ _ (h.push g1 g2 fun j hj => by subst hj; exact Nat.le_refl _) g1)
  simp only [evConvMem, h1, h2, h3]
/-- A slice that is written out. -/
theorem Hp.lit {P : Program} {t n e : Nat} {ps : List (Nat × Value)} {cs : List Value} {ty : Nat} (h : Hp X s0 R F s) (hev : evBuildSlice P t n ps s = some (.slice (some ⟨s.next, 0, none⟩) n n, s.new cs e ty)) {K : Value × St → Prop}
    (k : ∀ b s', Hp X s0 R (blkA b b cs e :: F) s' → K0 s s' → K (.slice (some ⟨b, 0, none⟩) n n, s')) : Om (evBuildSlice P t n ps s) K := by
  obtain ⟨g1, g2⟩ := new_kp h.wf cs e
  exact .of _ hev (k _ _ (h.push g1 g2 fun j hj => by subst hj; exact Nat.le_refl _) g1)
/-- What is looked at of a block is the same. -/
theorem Hp.sa {k b e : Nat} {C : List Value} (h : Hp X s0 R F s) {R' : List At} (h' : Hp X s0 R' F' s') (m : Has (blkA k b C e) F R) (m' : Has (blkA k b C e) F' R') : Sa true (some b) s s' := ⟨by
  show s'.rd b = s.rd b
  rw [(h.blk m).rd, (h'.blk m').rd]⟩
/-! ### temporaries that live -/
def liveK (L : En) (K : En → Prop) (ks : List Nat) : En → Prop :=
  List.rec (motive := fun _ => En → Prop) (fun A => K A) (fun k _ ih A => Rq (lk k L) fun v => ih ((k, v) :: A)) ks
theorem liveK_ok {L : En} {K : En → Prop} : ∀ {ks : List Nat} {A : En}, Sub A L → liveK L K ks A → ∃ B, Sub B L ∧ K B
  | [], A, hA, h => ⟨A, hA, h⟩
  | k :: ks, A, hA, h => by
    obtain ⟨v, hv, h⟩ := Rq.out h
    exact liveK_ok (ks := ks) (hA.cons hv) h
theorem Sm.live {P : Program} {n : Nat} {c : Code} {L : En} {s : St} {Q : Ex → En → St → Prop} (ks : List Nat) (h : liveK L (fun L0 => Sm P n c L0 s Q) ks []) : Sm P n c L s Q := by
  obtain ⟨B, hB, h⟩ := liveK_ok (Sub.nil L) h
  exact h.weak _ hB
/-- All of these are known there. -/
def subK (L : En) (ks : En) : Prop := List.rec (motive := fun _ => Prop) True (fun p _ ih => lk p.1 L = some p.2 ∧ ih) ks
theorem subK_ok {L : En} : ∀ {ks : En}, subK L ks → Sub ks L
  | [], _ => Sub.nil L
  | (i, v) :: ks, h => .cons h.1 (subK_ok (ks := ks) h.2)
theorem wi64 {n : Int} (h1 : -9223372036854775808 ≤ n) (h2 : n < 9223372036854775808) : IntKind.i64.wrap n = n := wrap_i64 h1 h2
end Go.Ev
