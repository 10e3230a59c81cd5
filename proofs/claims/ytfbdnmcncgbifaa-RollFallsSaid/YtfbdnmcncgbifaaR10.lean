/- Rolls without a program: what is appended; what 'known' says. No condition. -/
import Derived.Test.YtfbdnmcncgbifaaR9
noncomputable section
namespace Go.Ev
open Go.Proofs
set_option linter.unusedVariables false
set_option maxRecDepth 100000

theorem putB_getR {b l : List UInt8} {i : Nat} (h : i + l.length ≤ b.length) (k : Nat) : (putB b i l)[k]? = if k < i then b[k]? else if k < i + l.length then l[k - i]? else b[k]? := by
  unfold putB
  by_cases h1 : k < i
  · rw [if_pos h1, List.getElem?_append_left (by simp; omega), List.getElem?_append_left (by simp; omega), List.getElem?_take, if_pos h1]
  · rw [if_neg h1]
    by_cases h2 : k < i + l.length
    · rw [if_pos h2, List.getElem?_append_left (by simp; omega), List.getElem?_append_right (by simp; omega)]
      congr 1; simp; omega
    · rw [if_neg h2, List.getElem?_append_right (by simp; omega), List.getElem?_drop]
      congr 1; simp; omega
theorem reg_get (b : List UInt8) (A Z k : Nat) : ((b.drop A).take Z)[k]? = if k < Z then b[A + k]? else none := by
  rw [List.getElem?_take]
  split
  · rw [List.getElem?_drop]
  · rfl
/-- A write within a region, at its u-th byte. -/
theorem reg_put {b l : List UInt8} {A Z u : Nat} (hA : A + Z ≤ b.length) (hu : u + l.length ≤ Z) : ((putB b (A + u) l).drop A).take Z = putB ((b.drop A).take Z) u l := by
  apply List.ext_getElem?
  intro k
  rw [reg_get, putB_getR (by omega), putB_getR (by simp; omega), reg_get]
  repeat' split
  all_goals first | rfl | omega | (congr 1; omega)
/-- A write outside of a region. -/
theorem reg_out {b l : List UInt8} {A Z i : Nat} (hi : i + l.length ≤ b.length) (ho : i + l.length ≤ A ∨ A + Z ≤ i) : ((putB b i l).drop A).take Z = (b.drop A).take Z := by
  apply List.ext_getElem?
  intro k
  rw [reg_get, putB_getR hi, reg_get]
  repeat' split
  all_goals first | rfl | omega
theorem put_zeros (X l : List UInt8) (n : Nat) (h : l.length ≤ n) : putB (X ++ List.replicate n 0) X.length l = X ++ l ++ List.replicate (n - l.length) 0 := by
  unfold putB
  rw [List.take_left' rfl, ← List.drop_drop, List.drop_left' rfl, List.drop_replicate]
theorem SL.write_plainR {σ : SL} {a : Int} {l : List UInt8} (h1 : σ.dead = false) (h2 : σ.limits = false) (h3 : 0 ≤ a) (h4 : a + l.length ≤ σ.b.length) :
    σ.write a l = ({ σ with writes := IntKind.i64.wrap (σ.writes + 1), left := IntKind.i64.wrap (σ.left - 1), b := putB σ.b a.toNat l }, true) := by
  have hh : σ.has a l.length = true := SL.has_iff.2 ⟨h1, h3, by omega, by omega, by omega⟩
  simp only [SL.write, hh, if_true, h2]
  simp
/-- A record more. -/
theorem Laid.snoc {b : List UInt8} {L : List Rr} (h : Laid b L) {r : Rr} (ok : r.ok) (hs : lastF L < r.seq) (hb : (layAll 0 L).length + (layF r (layAll 0 L).length).length ≤ b.length) : Laid (putB b (layAll 0 L).length (layF r (layAll 0 L).length)) (L ++ [r]) := by
  obtain ⟨n, hn⟩ := h.zeros
  have hbl : b.length = (layAll 0 L).length + n := by rw [hn]; simp
  refine ⟨fun x hx => ?_, rises_snoc h.rises (fun hl => by subst hl; exact hs) (fun _ => hs), n - (layF r (layAll 0 L).length).length, ?_⟩
  · rcases List.mem_append.1 hx with g | g
    · exact h.ok x g
    · rw [List.mem_singleton] at g; subst g; exact ok
  · rw [hn, put_zeros _ _ _ (by omega), layAll_append]
    simp [layAll]
/-- What stands of a roll that was opened, and only appended to, on a slab that was not cut. -/
structure RollOk (σ : SL) (ro : RO) : Prop where
  dead : σ.dead = false
  fits : ro.at_ + ro.size ≤ σ.b.length
  used : ro.used = (layAll 0 ro.l).length
  room : ro.used ≤ ro.size
  laid : Laid ((σ.b.drop ro.at_).take ro.size) ro.l
theorem RollOk.append {σ : SL} {ro : RO} (h : RollOk σ ro) (hlim : σ.limits = false) {r : Rr} (ok : r.ok) (hs : lastF ro.l < r.seq) :
    ((ro.size : Int) - ro.used < (layF r ro.used).length → appF σ ro r = (.full, σ, ro)) ∧
    (¬ ((ro.size : Int) - ro.used < (layF r ro.used).length) → ∃ σ', appF σ ro r = (.ok, σ', { ro with l := ro.l ++ [r], used := ro.used + (layF r ro.used).length }) ∧ RollOk σ' { ro with l := ro.l ++ [r], used := ro.used + (layF r ro.used).length } ∧ σ'.limits = false ∧ σ'.b = putB σ.b (ro.at_ + ro.used) (layF r ro.used)) := by
  have hb := ok.body
  have hc : ¬ (r.seq ≤ lastF ro.l ∨ 420 < (bs r.body).length) := by omega
  refine ⟨fun hf => by unfold appF; rw [if_neg hc, if_pos hf], fun hf => ?_⟩
  have hroom := h.room
  have hfits := h.fits
  have hw := SL.write_plainR (σ := σ) (a := (ro.at_ : Int) + ro.used) (l := layF r ro.used) h.dead hlim (by omega) (by omega)
  have htn : ((ro.at_ : Int) + (ro.used : Int)).toNat = ro.at_ + ro.used := by omega
  rw [htn] at hw
  refine ⟨{ σ with writes := IntKind.i64.wrap (σ.writes + 1), left := IntKind.i64.wrap (σ.left - 1), b := putB σ.b (ro.at_ + ro.used) (layF r ro.used) }, by unfold appF; rw [if_neg hc, if_neg hf, hw, if_pos rfl], ⟨h.dead, ?_, ?_, ?_, ?_⟩, hlim, rfl⟩
  · show ro.at_ + ro.size ≤ (putB σ.b (ro.at_ + ro.used) (layF r ro.used)).length
    rw [putB_length _ _ _ (by omega)]; exact h.fits
  · show ro.used + (layF r ro.used).length = (layAll 0 (ro.l ++ [r])).length
    rw [layAll_append, List.length_append, ← h.used]
    simp [layAll, h.used]
  · show ro.used + (layF r ro.used).length ≤ ro.size
    omega
  · show Laid (((putB σ.b (ro.at_ + ro.used) (layF r ro.used)).drop ro.at_).take ro.size) (ro.l ++ [r])
    rw [reg_put h.fits (by omega), h.used]
    refine h.laid.snoc ok hs ?_
    rw [← h.used]; simp; omega
theorem RollOk.open {σ : SL} {ro : RO} (h : RollOk σ ro) (h1 : 32 ≤ ro.size) (h2 : ro.size ≤ 8192) : openF σ ro.at_ ro.size = (.ok ro, σ) := by
  have := open_laid (A := ro.at_) (Z := ro.size) h.dead h1 h2 h.fits h.laid
  rw [this, ← h.used]
theorem zeros_ok {σ : SL} {A Z : Nat} (hd : σ.dead = false) (hf : A + Z ≤ σ.b.length) (hz : ∀ x ∈ σ.b, x = 0) : RollOk σ ⟨A, Z, 0, []⟩ :=
  ⟨hd, hf, rfl, Nat.zero_le _, ⟨fun r h => by (cases h), trivial, Z, by
    show (σ.b.drop A).take Z = [] ++ List.replicate Z 0
    rw [List.nil_append, List.eq_replicate_iff]
    exact ⟨by simp; omega, fun x hx => hz x (List.mem_of_mem_drop (List.mem_of_mem_take hx))⟩⟩⟩
theorem rr_at {l : List Rr} {i : Nat} (h : i < l.length) : ((rrCells l).drop (i * 2)).take 2 = l[i].cells := by
  rw [rrCells_drop, List.drop_eq_getElem_cons h]
  rfl
theorem index_rr {s : St} {κ : Option Nat} {v : Value} {l : List Rr} (h : Srr s κ v l) {i : Nat} (hi : i < l.length) :
    ∃ a, evIndexAddr Try.prog 39 v (.int .i64 (i : Int)) = some (.pointer (some a)) ∧ evLoad Try.prog 42 (.pointer (some a)) s = some l[i].val := by
  rcases h.ex with ⟨rfl, h0, _, _⟩ | ⟨b, off, c, C, rfl, hc, hl, hs, hm⟩
  · omega
  · have hr : s.rd b = some C := by
      rcases hm with ⟨k, _, hm⟩ | ⟨_, hm⟩
      · exact hm.rd
      · exact hm.rd
    refine ⟨_, idx_at R39 .i64 hi, ?_⟩
    unfold evLoad
    have hsl : sl C (off + i * 2) 2 = some l[i].cells := by
      obtain ⟨g1, g2, g3, _⟩ := sl_some hs
      have hle : i * 2 + 2 ≤ l.length * 2 := by omega
      have e : (List.drop (off + i * 2) C).take 2 = ((rrCells l).drop (i * 2)).take 2 := by
        rw [g2, List.drop_take, List.drop_drop, List.take_take, Nat.min_eq_left (by omega)]
      unfold sl
      rw [e, rr_at hi]
      rfl
    have hu : Try.prog.underlying 42 = _ := Try.underlying42
    have hi2 : ∃ q, Try.prog.info? 42 = some q ∧ q.size = 2 := ⟨_, rfl, rfl⟩
    obtain ⟨q, hq, hq2⟩ := hi2
    simp only [hr, hu, hq, hq2, hsl]
    rfl
theorem eq_rr (a b : Rr) (c : Bool) : evBin Try.prog .eql 42 c a.val b.val = some (.bool ((a.seq == b.seq) && (bs a.body == bs b.body))) := by
  have e : ∀ p q : Bool, (a.seq == b.seq) = p → (bs a.body == bs b.body) = q → evEq Try.prog 10000 42 a.val b.val = some (p && q) := by
    intro p q h1 h2
    conv => lhs; whnf
    rw [show Try.prog.stoodInHeld 42 = false by decide +kernel]
    show (match (some (a.seq == b.seq) : Option Bool) with | some true => (match (some (bs a.body == bs b.body) : Option Bool) with | some true => some true | some false => some false | none => none) | some false => some false | none => none) = _
    rw [h1, h2]
    cases p <;> cases q <;> rfl
  have hg : Try.prog.eqGuardType Try.prog.depth 42 = false := by decide +kernel
  show (match !(Try.prog.eqGuardType Try.prog.depth 42) with | false => none | true => (match evEq Try.prog 10000 42 a.val b.val with | some b => some (Value.bool b) | none => none)) = _
  rw [hg, e _ _ rfl rfl]; rfl
/-- A slab as it is made. -/
structure Fresh (σ : SL) (n : Nat) : Prop where
  dead : σ.dead = false
  limits : σ.limits = false
  len : σ.b.length = n
  zero : ∀ x ∈ σ.b, x = 0
section
variable {X : Nat → Prop} {s0 s : St} {R F G H : List At} {p v : Value} {kr br : Nat} {κ : Option Nat} {ro : RO} {ks kb : Nat} {σ : SL}
theorem Hp.sFresh (hp : Hp X s0 R F s) (n : Nat) (h1 : 1 ≤ n) (h2 : n ≤ 65536) {K : Value → St → Prop} (k : ∀ b ks kb σ s', Fresh σ n → Hp X s0 R (slabA (.pointer (some ⟨b, 0, none⟩)) ks kb σ :: F) s' → K (.pointer (some ⟨b, 0, none⟩)) s') :
    Cw Try.prog 8 [.int .i64 (n : Int)] s K :=
  hp.sNew (n : Int) fun b ks kb s' h _ => k b ks kb _ s' ⟨rfl, rfl, by simp; omega, fun x hx => (List.mem_replicate.1 hx).2⟩ h
theorem Hp.rOpen (hp : Hp X s0 R F s) {bp : Nat} (r : Rm (slabA (.pointer (some ⟨bp, 0, none⟩)) ks kb σ) F G) (ok : RollOk σ ro) (h1 : 32 ≤ ro.size) (h2 : ro.size ≤ 8192) {at_ size : Int} (ha : at_ = (ro.at_ : Int)) (hs : size = (ro.size : Int)) {K : Value → St → Prop}
    (k : ∀ kr br κ v s', Hp X s0 R (blkA kr br (roCells (.pointer (some ⟨bp, 0, none⟩)) ro v) 5 :: onA κ v 2 ro.l.length (rrCells ro.l) :: slabA (.pointer (some ⟨bp, 0, none⟩)) ks kb σ :: G) s' → K (.tuple #[.pointer (some ⟨br, 0, none⟩), .int .i64 0]) s') :
    Cw Try.prog 9 [.pointer (some ⟨bp, 0, none⟩), .int .i64 at_, .int .i64 size] s K := by
  subst ha hs
  have hlen := (hp.okF _ r.sub.1 : SlabAt s (.pointer (some ⟨bp, 0, none⟩)) ks kb σ).len
  have hf := ok.fits
  have ho := ok.open h1 h2
  refine open_spec hp r _ _ (by unfold inR; omega) (by unfold inR; omega) (fun h => by rw [ho] at h; cases h) (fun h => by rw [ho] at h; cases h) ?_
  intro ro' hro kr br κ v s' h'
  rw [ho] at hro h'
  injection hro with hro
  subst hro
  exact k kr br κ v s' h'
/-- A record that goes in. -/
theorem Hp.rAppend (hp : Hp X s0 R F s) {p : Value} {v : Value} (h1 : Rm (blkA kr br (roCells p ro v) 5) F G) (h2 : Rm (onA κ v 2 ro.l.length (rrCells ro.l)) G H) {H' : List At} (h3 : Rm (slabA p ks kb σ) H H') (ok : RollOk σ ro) (hlim : σ.limits = false) (hz : ro.size ≤ 8192)
    {r : Rr} (hr : r.ok) (hs : lastF ro.l < r.seq) {seq : Int} {body : Value} (hsq : seq = r.seq) (hbd : body = .string r.body) {K : Value → St → Prop}
    (kF : (ro.size : Int) - ro.used < (layF r ro.used).length → ∀ v' κ' s', Hp X s0 R (blkA kr br (roCells p ro v') 5 :: onA κ' v' 2 ro.l.length (rrCells ro.l) :: slabA p ks kb σ :: H') s' → K (.int .i64 5) s')
    (kO : ¬ ((ro.size : Int) - ro.used < (layF r ro.used).length) → ∀ σ' v' κ' s', RollOk σ' { ro with l := ro.l ++ [r], used := ro.used + (layF r ro.used).length } → σ'.limits = false → σ'.b = putB σ.b (ro.at_ + ro.used) (layF r ro.used) →
      Hp X s0 R (blkA kr br (roCells p { ro with l := ro.l ++ [r], used := ro.used + (layF r ro.used).length } v') 5 :: onA κ' v' 2 (ro.l ++ [r]).length (rrCells (ro.l ++ [r])) :: slabA p ks kb σ' :: H') s' → K (.int .i64 0) s') :
    Cw Try.prog 11 [.pointer (some ⟨br, 0, none⟩), .int .i64 seq, body] s K := by
  subst hsq hbd
  have hb := hr.body
  have hlen := (hp.okF _ (h1.sub.2 _ (h2.sub.2 _ h3.sub.1)) : SlabAt s p ks kb σ).len
  have hfits := ok.fits
  have hroom := ok.room
  have hmin := layAll_min ro.l 0
  have hu := ok.used
  obtain ⟨a1, a2⟩ := ok.append hlim hr hs
  refine append_spec hp h1 h2 h3 hz (by omega) (by omega) (by omega) r (by omega) ?_
  intro v' κ' s' h'
  by_cases hf : (ro.size : Int) - ro.used < (layF r ro.used).length
  · rw [a1 hf] at h' ⊢
    exact kF hf v' κ' s' h'
  · obtain ⟨σ', b1, b2, b3, b4⟩ := a2 hf
    rw [b1] at h' ⊢
    exact kO hf σ' v' κ' s' b2 b3 b4 h'
end
def ab3 : Rr := ⟨3, ⟨#[97, 98]⟩⟩
theorem ab3_ok : ab3.ok := ⟨by unfold inR ab3; decide, by decide⟩
theorem rknown_spec {z : St} (wf : WF z) : Cw Try.prog 10 [] z fun r s' => r = .bool true ∧ K0 z s' := by
  have hp : Hp (fun _ => False) z [] [] z := Hp.start _ wf _ (by simp)
  refine Cw.enterS Try.func10 rfl rfl ?_
  refine Sm.seqW ?_
  conv => whnf
  refine Sm.seqW ?_
  conv => whnf
  refine hp.sFresh 100 (by decide) (by decide) ?_
  clear hp
  intro b1 ks kb σ s hfr hp
  have hlen := hfr.len
  conv => whnf
  refine Sm.live [1] ?_
  conv => whnf
  refine Sm.seqW ?_
  conv => whnf
  have ok0 := zeros_ok (A := 10) (Z := 64) hfr.dead (by omega) hfr.zero
  refine hp.rOpen (by repeat (first | exact Rm.here | apply Rm.there)) ok0 (by decide) (by decide) rfl rfl ?_
  clear hp
  intro kr br κ v s hp
  conv => whnf
  refine Sm.live [1, 2, 3] ?_
  conv => whnf
  refine Sm.seq ?_
  refine Sm.seqW ?_
  conv => whnf
  repeat (first | (refine Br.yes (by first | with_reducible rfl | rfl) ?_; conv => whnf) | (refine Br.no (by first | with_reducible rfl | rfl) ?_; conv => whnf))
  refine Om.of (.bool false) rfl ?_
  conv => whnf
  repeat (first | (refine Br.yes (by first | with_reducible rfl | rfl) ?_; conv => whnf) | (refine Br.no (by first | with_reducible rfl | rfl) ?_; conv => whnf))
  refine Om.of (.bool false) rfl ?_
  conv => whnf
  repeat (first | (refine Br.yes (by first | with_reducible rfl | rfl) ?_; conv => whnf) | (refine Br.no (by first | with_reducible rfl | rfl) ?_; conv => whnf))
  refine hp.rAppend (ro := ⟨10, 64, 0, []⟩) (r := ab3) (by repeat (first | exact Rm.here | apply Rm.there)) (by repeat (first | exact Rm.here | apply Rm.there)) (by repeat (first | exact Rm.here | apply Rm.there)) ok0 hfr.limits (by decide) ab3_ok (by decide) rfl rfl (fun hf => absurd hf (by decide +kernel)) ?_
  clear hp
  intro _ σ' v' κ' s ok1 hl1 _ hp
  conv => whnf
  repeat (first | (refine Br.yes (by first | with_reducible rfl | rfl) ?_; conv => whnf) | (refine Br.no (by first | with_reducible rfl | rfl) ?_; conv => whnf))
  refine Sm.ofW ?_
  conv => whnf
  repeat (first | (refine Br.yes (by first | with_reducible rfl | rfl) ?_; conv => whnf) | (refine Br.no (by first | with_reducible rfl | rfl) ?_; conv => whnf))
  refine Sm.live [1] ?_
  conv => whnf
  refine Sm.seqW ?_
  conv => whnf
  refine hp.rOpen (by repeat (first | exact Rm.here | apply Rm.there)) ok1 (by decide) (by decide) rfl rfl ?_
  clear hp
  intro kr2 br2 κ2 v2 s hp
  conv => whnf
  refine Sm.live [4, 5] ?_
  conv => whnf
  refine Sm.seq ?_
  refine Sm.seqW ?_
  conv => whnf
  repeat (first | (refine Br.yes (by first | with_reducible rfl | rfl) ?_; conv => whnf) | (refine Br.no (by first | with_reducible rfl | rfl) ?_; conv => whnf))
  refine Om.of (.bool false) rfl ?_
  conv => whnf
  repeat (first | (refine Br.yes (by first | with_reducible rfl | rfl) ?_; conv => whnf) | (refine Br.no (by first | with_reducible rfl | rfl) ?_; conv => whnf))
  refine Sm.ofW ?_
  conv => whnf
  repeat (first | (refine Br.yes (by first | with_reducible rfl | rfl) ?_; conv => whnf) | (refine Br.no (by first | with_reducible rfl | rfl) ?_; conv => whnf))
  refine Sm.seqW ?_
  conv => whnf
  refine hp.callO (records_spec hp (κ := κ2) (v := v2) (kr := kr2) (br := br2) (by repeat (first | exact Has.here | apply Has.there | (apply Has.swap; repeat (first | exact HasR.here | apply HasR.there)))) (hp.slF (by repeat (first | exact Rm.here | apply Rm.there))) (by decide)) ?_
  clear hp
  intro v3 κ3 s hp _
  obtain ⟨a3, c3, rfl⟩ := (hp.slF (κ := κ3) .here).shape
  conv => whnf
  refine Sm.seqW ?_
  conv => whnf
  repeat (first | (refine Br.yes (by first | with_reducible rfl | rfl) ?_; conv => whnf) | (refine Br.no (by first | with_reducible rfl | rfl) ?_; conv => whnf))
  obtain ⟨p, e1, e2⟩ := index_rr (l := [ab3]) (hp.slF (κ := κ3) (v := .slice a3 1 c3) .here) (i := 0) (by decide)
  refine Om.of _ e1 ?_
  conv => whnf
  repeat (first | (refine Br.yes (by first | with_reducible rfl | rfl) ?_; conv => whnf) | (refine Br.no (by first | with_reducible rfl | rfl) ?_; conv => whnf))
  refine Om.of _ e2 ?_
  conv => whnf
  repeat (first | (refine Br.yes (by first | with_reducible rfl | rfl) ?_; conv => whnf) | (refine Br.no (by first | with_reducible rfl | rfl) ?_; conv => whnf))
  refine Om.of _ (eq_rr ab3 ab3 _) ?_
  conv => whnf
  have hab : (ab3.seq == ab3.seq && bs ab3.body == bs ab3.body) = true := by decide +kernel
  repeat (first | (refine Br.yes hab ?_; conv => whnf) | (refine Br.yes rfl ?_; conv => whnf))
  refine (left_spec hp (v := v2) (kr := kr2) (br := br2) (by repeat (first | exact Has.here | apply Has.there | (apply Has.swap; repeat (first | exact HasR.here | apply HasR.there)))) (by decide) (by decide +kernel)).mono ?_
  rintro _ _ ⟨rfl, rfl⟩
  conv => whnf
  repeat (first | (refine Br.yes hab ?_; conv => whnf))
  refine Sm.ofW ?_
  conv => whnf
  exact ⟨congrArg Value.bool (show (((64 : Nat) : Int) - ((0 + (layF ab3 ((0 : Nat) : Int)).length : Nat) : Int) == 42) = true by decide +kernel), hp.fr⟩
end Go.Ev
