/- What RollTurns says. No condition. -/
import Derived.Test.YtfbdnmcncgbifaaR11
import Derived.Test.YtfbdnmcncgbifaaR12
noncomputable section
namespace Go.Ev
open Go.Proofs
set_option linter.unusedVariables false
set_option maxRecDepth 100000

theorem IN : SlT Try.prog 31 3 1 8 (.int .i64 0) := ⟨Try.underlying31, ⟨_, rfl, rfl, rfl, rfl⟩, rfl, rfl, by decide, by decide⟩
def natVals (l : List Nat) : List Value := l.map fun (n : Nat) => .int .i64 (n : Int)
theorem natVals_len (l : List Nat) : (natVals l).length = l.length := by simp [natVals]
theorem int_at {s : St} {κ : Option Nat} {v : Value} {n : Nat} {l : List Nat} (h : Sl s κ v 1 n (natVals l)) (hn : n = l.length) {i : Nat} {x : Nat} (hi : l[i]? = some x) :
    ∃ a, evIndexAddr Try.prog 31 v (.int .i64 (i : Int)) = some (.pointer (some a)) ∧ evLoad Try.prog 3 (.pointer (some a)) s = some (.int .i64 (x : Int)) := by
  subst hn
  obtain ⟨hlt, hx⟩ := List.getElem?_eq_some_iff.1 hi
  obtain ⟨p, y, e1, e2, e3, a, rfl⟩ := index_sl IN Try.underlying3 rfl h .i64 hlt
  obtain rfl : y = .int .i64 (x : Int) := by simp [natVals, hi] at e2; exact e2.symm
  exact ⟨a, e1, e3⟩
theorem Hp.nilA {X : Nat → Prop} {s0 s : St} {R F : List At} (h : Hp X s0 R F s) (e : Nat) : Hp X s0 R (onA none (.slice none 0 0) e 0 [] :: F) s :=
  h.push (Kp.refl h.wf) (a := onA none (.slice none 0 0) e 0 []) (⟨.inl ⟨rfl, rfl, rfl, rfl⟩⟩ : OwnO s none _ e 0 []) (fun j hj => by cases hj)
def othR : Rr := ⟨1, ⟨#[111, 116, 104, 101, 114]⟩⟩
theorem othR_ok : othR.ok := ⟨by unfold inR othR; decide, by decide⟩
theorem turns7_walk {z : St} (wf : WF z) {v : Value} {TS : List ByteArray} (hv : Sl z none v 1 TS.length (TS.map Value.string)) (hT : ∀ t ∈ TS, (bs t).length ≤ 140737488351232) (hn : TS.length ≤ 140737488351232) {at_ by_ : Int} (hat : inR at_) (hby : 0 ≤ by_ ∧ by_ < 256) :
    Cw Try.prog 3 [v, .int .i64 at_, .int .u8 by_] z fun r _ => r = .bool true := by
  obtain ⟨a, cp, rfl⟩ := hv.shape
  have hp : Hp (fun _ => False) z [slA none (.slice a TS.length cp) 1 TS.length (TS.map Value.string)] [] z := Hp.start _ wf _ (by simp; exact hv)
  refine Cw.enterS Try.func3 rfl rfl ?_
  refine Sm.seqW ?_
  conv => whnf
  refine Sm.seqW ?_
  conv => whnf
  refine hp.sFresh 1000 (by decide) (by decide) ?_
  clear hp
  intro b1 ks kb σ s hfr hp
  have hlen := hfr.len
  conv => whnf
  refine Sm.live [0, 1, 2, 7] ?_
  conv => whnf
  refine Sm.seqW ?_
  conv => whnf
  have ok0 := zeros_ok (A := 0) (Z := 500) hfr.dead (by omega) hfr.zero
  have ok1 := zeros_ok (A := 500) (Z := 500) hfr.dead (by omega) hfr.zero
  refine hp.rOpen (by repeat (first | exact Rm.here | apply Rm.there)) ok0 (by decide) (by decide) rfl rfl ?_
  clear hp
  intro kr br κ v s hp
  conv => whnf
  refine Sm.live [0, 1, 2, 7, 8, 9] ?_
  conv => whnf
  refine Sm.seqW ?_
  conv => whnf
  refine hp.rOpen (by repeat (first | exact Rm.here | apply Rm.there)) ok1 (by decide) (by decide) rfl rfl ?_
  clear hp
  intro kr2 br2 κ2 v2 s hp
  conv => whnf
  refine Sm.live [0, 1, 2, 7, 8, 9, 10, 11] ?_
  conv => whnf
  refine Sm.seq ?_
  refine Sm.seqW ?_
  conv => whnf
  refine (rknown_spec hp.wf).mono ?_
  rintro _ s' ⟨rfl, k1⟩
  replace hp := hp.k0 k1
  clear k1
  conv => whnf
  repeat (first | (refine Br.yes (by first | with_reducible rfl | rfl) ?_; conv => whnf) | (refine Br.no (by first | with_reducible rfl | rfl) ?_; conv => whnf))
  refine Om.of (.bool false) rfl ?_
  conv => whnf
  repeat (first | (refine Br.yes (by first | with_reducible rfl | rfl) ?_; conv => whnf) | (refine Br.no (by first | with_reducible rfl | rfl) ?_; conv => whnf))
  refine Om.of (.bool false) rfl ?_
  conv => whnf
  repeat (first | (refine Br.yes (by first | with_reducible rfl | rfl) ?_; conv => whnf) | (refine Br.no (by first | with_reducible rfl | rfl) ?_; conv => whnf))
  refine Om.of (.bool false) rfl ?_
  conv => whnf
  repeat (first | (refine Br.yes (by first | with_reducible rfl | rfl) ?_; conv => whnf) | (refine Br.no (by first | with_reducible rfl | rfl) ?_; conv => whnf))
  refine hp.rAppend (ro := ⟨500, 500, 0, []⟩) (r := othR) (by repeat (first | exact Rm.here | apply Rm.there)) (by repeat (first | exact Rm.here | apply Rm.there)) (by repeat (first | exact Rm.here | apply Rm.there)) ok1 hfr.limits (by decide) othR_ok (by decide) rfl rfl (fun hf => absurd hf (by decide +kernel)) ?_
  clear hp
  intro _ σ' v' κ' s ok1' hl1 hb1 hp
  have ok0' : RollOk σ' ⟨0, 500, 0, []⟩ := ok0.apart (A := 500) (Z := 500) ⟨ok1'.dead, hl1, by
      rw [hb1, putB_length _ _ _ (by show 500 + 0 + _ ≤ _; rw [hlen]; decide +kernel)], fun k hk => by
      rw [hb1, putB_getR (by show 500 + 0 + _ ≤ _; rw [hlen]; decide +kernel)]
      have : (layF othR ((0 : Nat) : Int)).length ≤ 30 := by decide +kernel
      have hk : k < 500 ∨ 500 + 500 ≤ k := hk
      show (if k < 500 + 0 then _ else _) = _
      split
      · rfl
      · rw [if_neg (by show ¬ k < 500 + 0 + (layF othR ((0 : Nat) : Int)).length; omega)]⟩ (by show 500 + 500 ≤ 0 ∨ 0 + 500 ≤ 500; omega)
  have hlen' : σ'.b.length = 1000 := by rw [hb1, putB_length _ _ _ (by show 500 + 0 + _ ≤ _; rw [hlen]; decide +kernel)]; exact hlen
  clear ok0 ok1 hfr hlen
  conv => whnf
  repeat (first | (refine Br.yes (by first | with_reducible rfl | rfl) ?_; conv => whnf) | (refine Br.no (by first | with_reducible rfl | rfl) ?_; conv => whnf))
  refine Sm.ofW ?_
  conv => whnf
  repeat (first | (refine Br.yes (by first | with_reducible rfl | rfl) ?_; conv => whnf) | (refine Br.no (by first | with_reducible rfl | rfl) ?_; conv => whnf))
  refine Sm.live [0, 1, 2, 7, 8, 10] ?_
  conv => whnf
  refine Sm.seqW ?_
  conv => whnf
  refine Sm.live [0, 1, 2, 7, 8, 10, 12] ?_
  conv => whnf
  have e22 : 0 + (layF othR ((0 : Nat) : Int)).length = 25 := by decide +kernel
  have ok1 : RollOk σ' ⟨500, 500, 25, [othR]⟩ := by
    have := ok1'
    simp only [e22] at this
    exact this
  clear ok1' e22 hb1
  have hL0 : (layAll 0 []).length = 0 := rfl
  refine Sm.seq ?_
  refine Sm.seqW ?_
  conv => whnf
  refine Sm.block ?_
  refine Sm.loop ?_
  refine Lp.ofS (α := Nat × List Rr × SL × Option Nat × Value × Option Nat × Value) (fun x => [(0, .slice a TS.length cp), (1, .int .i64 at_), (2, .int .u8 by_), (7, .pointer (some ⟨b1, 0, none⟩)), (8, .pointer (some ⟨br, 0, none⟩)), (12, x.2.2.2.2.2.2), (13, .int .i64 (x.1 : Int))])
    (fun x s' => x.1 ≤ 7 ∧ x.2.1.length = x.1 ∧ (layAll 0 x.2.1).length ≤ 60 * x.1 ∧ RollOk x.2.2.1 ⟨0, 500, (layAll 0 x.2.1).length, x.2.1⟩ ∧ RollOk x.2.2.1 ⟨500, 500, 25, [othR]⟩ ∧ x.2.2.1.limits = false ∧ x.2.2.1.b.length = 1000 ∧ lastF x.2.1 = (x.1 : Int) ∧
      Hp (fun _ => False) z [slA none (.slice a TS.length cp) 1 TS.length (TS.map Value.string)] [onA x.2.2.2.2.2.1 x.2.2.2.2.2.2 1 x.1 (natVals (endsF 0 x.2.1)), blkA kr br (roCells (.pointer (some ⟨b1, 0, none⟩)) ⟨0, 500, (layAll 0 x.2.1).length, x.2.1⟩ x.2.2.2.2.1) 5, onA x.2.2.2.1 x.2.2.2.2.1 2 x.2.1.length (rrCells x.2.1), slabA (.pointer (some ⟨b1, 0, none⟩)) ks kb x.2.2.1] s')
    (fun x => 7 - x.1) ?_ (0, [], σ', κ, v, none, .slice none 0 0) (subK_ok (by refine ⟨rfl, rfl, rfl, rfl, rfl, rfl, rfl, trivial⟩)) ⟨Nat.zero_le _, rfl, Nat.le_refl _, ok0', ok1, hl1, hlen', rfl, (hp.nilA 1).pik (by repeat (first | exact Pik.nil | exact Pik.refl _ | exact Rm.here | apply Rm.there | apply Pik.cons | apply Pik.skip))⟩
  clear hp
  rintro ⟨i, L, τ, κl, vl, κe, ve⟩ s ⟨hi, hL, hu, okR, okO, hlim, hbl, hlast, hp⟩
  simp only at hi hL hu okR okO hlim hbl hlast hp
  obtain ⟨al, cl, rfl⟩ := (hp.slF (κ := κl) (by repeat (first | exact Rm.here | apply Rm.there))).shape
  obtain ⟨ae, ce, rfl⟩ := (hp.slF (κ := κe) (by repeat (first | exact Rm.here | apply Rm.there))).shape
  refine Sm.seq ?_
  refine Sm.seqC (fun e L' s' => e = .normal ∧ s' = s ∧ Sub [(0, .slice a TS.length cp), (1, .int .i64 at_), (2, .int .u8 by_), (7, .pointer (some ⟨b1, 0, none⟩)), (8, .pointer (some ⟨br, 0, none⟩)), (12, .slice ae i ce), (13, .int .i64 (i : Int)), (68, .bool (decide (i < TS.length ∧ i < 7)))] L') ?_ ?_
  · conv => whnf
    refine Br.mk (fun hc => ?_) (fun hc => ?_)
    · have hc : i < TS.length := by have := of_decide_eq_true hc; omega
      conv => whnf
      have d : decide ((i : Int) < (TS.length : Int)) = true := decide_eq_true (by omega)
      repeat (refine Br.yes d ?_; conv => whnf)
      refine ⟨rfl, rfl, subK_ok ⟨rfl, rfl, rfl, rfl, rfl, rfl, rfl, congrArg (fun x => some (Value.bool x)) ?_, trivial⟩⟩
      simp only [hc, true_and]
      exact decide_eq_decide.2 (by omega)
    · have hc : ¬ i < TS.length := by have := of_decide_eq_false hc; omega
      conv => whnf
      have d : decide ((i : Int) < (TS.length : Int)) = false := decide_eq_false (by omega)
      repeat (refine Br.no d ?_; conv => whnf)
      refine ⟨rfl, rfl, subK_ok ⟨rfl, rfl, rfl, rfl, rfl, rfl, rfl, congrArg (fun x => some (Value.bool x)) ?_, trivial⟩⟩
      simp [hc]
  rintro e L' s' ⟨rfl, rfl, hsub⟩
  refine Sm.weak _ hsub ?_
  clear hsub
  refine Sm.ofW ?_
  conv => whnf
  refine Br.mk (fun hc => ?_) (fun hc => ?_)
  · obtain ⟨hc, hc7⟩ : i < TS.length ∧ i < 7 := of_decide_eq_true hc
    have hti := hT _ (List.getElem_mem hc)
    conv => whnf
    refine Sm.seq (Sm.block ?_)
    refine Sm.seq ?_
    refine Sm.seqW ?_
    conv => whnf
    obtain ⟨p, e1, e2⟩ := str_at (hp.slR .here) hc
    refine Om.of _ e1 ?_
    conv => whnf
    refine Om.of _ e2 ?_
    conv => whnf
    clear e1 e2
    generalize TS[i] = t at hti
    refine hp.bytesOf Try.underlying9 Try.underlying32 Try.underlying5 t ?_
    clear hp
    intro bt s hp _
    conv => whnf
    refine hp.callO (few_spec hp.wf (hp.blkSl (n := (bs t).length) (m := (by repeat (first | exact Has.here | apply Has.there | (apply Has.swap; repeat (first | exact HasR.here | apply HasR.there))) : Has (blkA bt bt (byteVals (bs t)) 1) _ _)) (by rw [byteVals_length]; omega)) (by omega) 40) ?_
    clear hp
    intro w3 κ3 s hp _
    conv => whnf
    refine Om.of _ (string_sl (src := 32) (dst := 9) Try.underlying32 Try.underlying9 Try.underlying5 (hp.slF (κ := κ3) (v := w3) .here)) ?_
    conv => whnf
    have hcut : (⟨((bs t).take 40).toArray⟩ : ByteArray) = cutT t 40 := rfl
    rw [hcut]
    have hm : (bs (cutT t 40)).length ≤ 40 := by rw [bs_cut]; simp; omega
    generalize cutT t 40 = x at hm
    have ei : IntKind.i64.wrap ((i : Int) + 1) = ((i + 1 : Nat) : Int) := by rw [wi64 (by omega) (by omega)]; push_cast; rfl
    rw [ei]
    have hlay : (layF ⟨((i + 1 : Nat) : Int), x⟩ ((layAll 0 L).length : Nat)).length = 20 + (bs x).length := by
      rw [layF_len]
      show 19 + (Pk.encI ((bs x).length : Int)).length + (bs x).length = _
      rw [enc_small (by omega)]
    refine hp.rAppend (ro := ⟨0, 500, (layAll 0 L).length, L⟩) (r := ⟨((i + 1 : Nat) : Int), x⟩) (by repeat (first | exact Rm.here | apply Rm.there)) (by repeat (first | exact Rm.here | apply Rm.there)) (by repeat (first | exact Rm.here | apply Rm.there)) okR hlim (by show 500 ≤ 8192; decide) ⟨by show -9223372036854775808 ≤ ((i + 1 : Nat) : Int) ∧ ((i + 1 : Nat) : Int) < 9223372036854775808; omega, by show (bs x).length ≤ 420; omega⟩ (by show lastF L < ((i + 1 : Nat) : Int); omega) rfl rfl (fun hf => absurd hf (by
      show ¬ (((500 : Nat) : Int) - ((layAll 0 L).length : Nat) < ((layF ⟨((i + 1 : Nat) : Int), x⟩ ((layAll 0 L).length : Nat)).length : Int)); omega)) ?_
    clear hp
    intro _ τ' v' κ' s okR' hlim' hb' hp
    have hL2 : (layAll 0 (L ++ [⟨((i + 1 : Nat) : Int), x⟩])).length = (layAll 0 L).length + (layF ⟨((i + 1 : Nat) : Int), x⟩ ((layAll 0 L).length : Nat)).length := by
      rw [layAll_append, List.length_append]; simp [layAll]
    have hends := endsF_snoc 0 L ⟨((i + 1 : Nat) : Int), x⟩
    simp only [Nat.zero_add] at hends
    rw [← hL2] at hends
    simp only [← hL2] at okR' hp
    generalize hLn : L ++ [⟨((i + 1 : Nat) : Int), x⟩] = L' at hL2 hends okR' hp
    have hb2 : τ'.b = putB τ.b (0 + (layAll 0 L).length) (layF ⟨((i + 1 : Nat) : Int), x⟩ ((layAll 0 L).length : Nat)) := hb'
    have hfit : 0 + (layAll 0 L).length + (layF ⟨((i + 1 : Nat) : Int), x⟩ ((layAll 0 L).length : Nat)).length ≤ τ.b.length := by omega
    have okO' : RollOk τ' ⟨500, 500, 25, [othR]⟩ := okO.apart (A := 0) (Z := 500) ⟨okR'.dead, hlim', by rw [hb2, putB_length _ _ _ hfit], fun k hk => by
      rw [hb2, putB_getR hfit]
      rw [if_neg (by omega), if_neg (by omega)]⟩ (by show 0 + 500 ≤ 500 ∨ _; omega)
    have hbl' : τ'.b.length = 1000 := by rw [hb2, putB_length _ _ _ hfit, hbl]
    conv => whnf
    refine Sm.ofW ?_
    conv => whnf
    repeat (first | (refine Br.yes (by first | with_reducible rfl | rfl) ?_; conv => whnf) | (refine Br.no (by first | with_reducible rfl | rfl) ?_; conv => whnf))
    refine Sm.live [0, 1, 2, 7, 8, 12, 13] ?_
    conv => whnf
    refine Sm.ofW ?_
    conv => whnf
    refine (left_spec hp (ro := ⟨0, 500, (layAll 0 L').length, L'⟩) (v := v') (kr := kr) (br := br) (by repeat (first | exact Has.here | apply Has.there | (apply Has.swap; repeat (first | exact HasR.here | apply HasR.there)))) (by show 500 ≤ 65536; decide) (by show (layAll 0 L').length ≤ 65536; omega)).mono ?_
    rintro _ _ ⟨rfl, rfl⟩
    conv => whnf
    have e9 : IntKind.i64.wrap (500 - (((500 : Nat) : Int) - ((layAll 0 L').length : Nat))) = ((layAll 0 L').length : Int) := by rw [wi64 (by omega) (by omega)]; omega
    have e9 : IntKind.i64.wrap (500 - (((⟨0, 500, (layAll 0 L').length, L'⟩ : RO).size : Int) - ((⟨0, 500, (layAll 0 L').length, L'⟩ : RO).used : Int))) = ((layAll 0 L').length : Int) := e9
    rw [e9]
    refine hp.one IN rfl ?_
    clear hp
    intro v4 b4 s hp _
    conv => whnf
    have x4 : Sl s (some b4) v4 1 1 [.int .i64 ((layAll 0 L').length : Int)] := Own.sl (hp.okF _ List.mem_cons_self)
    refine hp.app IN Try.underlying31 rfl (by repeat (first | exact Rm.here | apply Rm.there)) (elems_sl x4) rfl rfl (by omega) ?_
    clear hp x4
    intro v5 κ5 s hp
    conv => whnf
    have hnv : natVals (endsF 0 L) ++ [.int .i64 ((layAll 0 L').length : Int)] = natVals (endsF 0 L') := by rw [hends]; simp [natVals]
    rw [hnv] at hp
    refine Sm.ofW ?_
    conv => whnf
    refine ⟨(i + 1, L', τ', κ', v', κ5, v5), by (show 7 - (i + 1) < 7 - i); omega, subK_ok (by refine ⟨rfl, rfl, rfl, rfl, rfl, rfl, congrArg (fun x => some (Value.int .i64 x)) ei, trivial⟩), hc7, by rw [← hLn]; simp [hL], by (show (layAll 0 L').length ≤ 60 * (i + 1)); omega, okR', okO', hlim', hbl', by rw [← hLn, lastF_snoc], hp.pik (by repeat (first | exact Pik.nil | exact Pik.refl _ | exact Rm.here | apply Rm.there | apply Pik.cons | apply Pik.skip))⟩
  · clear hc
    conv => whnf
    obtain ⟨y, rfl⟩ : ∃ y : Nat, by_ = (y : Int) := ⟨by_.toNat, by omega⟩
    refine Sm.seq ?_
    refine Sm.seqW ?_
    conv => whnf
    refine Br.mk (fun hc => ?_) (fun hc => ?_)
    · have d : ((i : Int) == 0) = true := hc
      conv => whnf
      repeat (refine Br.yes d ?_; conv => whnf)
      refine Sm.ofW ?_
      conv => whnf
      repeat (first | (refine Br.yes d ?_; conv => whnf) | (refine Br.yes rfl ?_; conv => whnf))
      exact ⟨rfl⟩
    have hi0 : i ≠ 0 := by have := beq_eq_false_iff_ne.1 hc; intro e; apply this; show (i : Int) = 0; omega
    have d : ((i : Int) == 0) = false := hc
    conv => whnf
    repeat (refine Br.no d ?_; conv => whnf)
    refine Sm.ofW ?_
    conv => whnf
    refine Br.mk (fun hc => ?_) (fun hc => ?_)
    · conv => whnf
      exact ⟨rfl⟩
    have hy0 : y ≠ 0 := by have := beq_eq_false_iff_ne.1 hc; intro e; apply this; show (y : Int) = 0; omega
    conv => whnf
    refine Sm.live [0, 1, 2, 7, 12] ?_
    conv => whnf
    refine Sm.seqW ?_
    conv => whnf
    have hel : i = (endsF 0 L).length := by rw [endsF_len, hL]
    have eim : IntKind.i64.wrap ((i : Int) - 1) = ((i - 1 : Nat) : Int) := by rw [wi64 (by omega) (by omega)]; omega
    have hLne : L ≠ [] := fun e => by subst e; exact hi0 hL.symm
    have hmin := layAll_min L 0
    have hends := ends_last 0 L hLne
    rw [Nat.zero_add, hL] at hends
    rw [eim]
    obtain ⟨p, e1, e2⟩ := int_at (hp.slF (κ := κe) (v := .slice ae i ce) (by repeat (first | exact Rm.here | apply Rm.there))) hel hends
    refine Om.of _ e1 ?_
    conv => whnf
    refine Om.of _ e2 ?_
    conv => whnf
    clear e1 e2
    refine (pick_spec _ (m := ((layAll 0 L).length : Int)) hat (by omega) (by omega)).mono ?_
    rintro _ s' ⟨rfl, rfl⟩
    obtain ⟨k, hk0, hk1⟩ : ∃ k : Nat, at_ % ((layAll 0 L).length : Int) = (k : Int) ∧ k < (layAll 0 L).length := ⟨(at_ % ((layAll 0 L).length : Int)).toNat, by have := Int.emod_nonneg at_ (b := ((layAll 0 L).length : Int)) (by omega); omega, by
      have := Int.emod_lt_of_pos at_ (b := ((layAll 0 L).length : Int)) (by omega)
      have := Int.emod_nonneg at_ (b := ((layAll 0 L).length : Int)) (by omega); omega⟩
    rw [hk0]
    clear hk0
    conv => whnf
    refine Sm.live [2, 7, 12, 14] ?_
    conv => whnf
    refine Sm.seqW ?_
    conv => whnf
    have hkb : k < τ.b.length := by omega
    have hread : τ.read k 1 = some [τ.b[k]] := by
      rw [SL.read_plainR (a := (k : Int)) (n := 1) okR.dead (by omega) (by omega) (by omega)]
      simp only [Int.toNat_natCast]
      rw [List.drop_eq_getElem_cons hkb]; rfl
    refine hp.sRead (by repeat (first | exact Has.here | apply Has.there | (apply Has.swap; repeat (first | exact HasR.here | apply HasR.there)))) (k : Int) 1 (fun h => by rw [hread] at h; cases h) ?_
    clear hp
    intro l6 v6 κ6 s hl6 hp _
    rw [hread] at hl6
    injection hl6 with hl6
    subst hl6
    generalize hx : τ.b[k] = x at hp
    obtain ⟨a6, c6, rfl⟩ := (hp.slF (κ := κ6) (v := v6) (by repeat (first | exact Rm.here | apply Rm.there))).shape
    conv => whnf
    refine Sm.live [2, 7, 12, 14, 15] ?_
    conv => whnf
    refine Sm.seq ?_
    refine Sm.seqW ?_
    conv => whnf
    refine Br.no rfl ?_
    conv => whnf
    refine Br.no rfl ?_
    conv => whnf
    refine Br.no rfl ?_
    conv => whnf
    refine Br.no rfl ?_
    conv => whnf
    obtain ⟨p, e1, e2⟩ := idx8 (l := [x]) (Sb.of (hp.slF (κ := κ6) (v := .slice a6 [x].length c6) (by repeat (first | exact Rm.here | apply Rm.there)))) (i := 0) (Nat.zero_lt_one)
    refine Om.of _ e1 ?_
    conv => whnf
    refine Br.no rfl ?_
    conv => whnf
    refine Om.of _ e2 ?_
    conv => whnf
    clear e1 e2
    repeat (refine Br.no rfl ?_; conv => whnf)
    have hx1 : x.toNat < 256 := x.toNat_lt
    have hx2 : x.toNat ^^^ y < 256 := Nat.xor_lt_two_pow (n := 8) hx1 (by omega)
    rw [show IntKind.u8.wrap (((BitVec.ofInt IntKind.u8.bits (([x] : List UInt8)[0].toNat : Int) ^^^ BitVec.ofInt IntKind.u8.bits (y : Int)).toNat : Nat) : Int) = ((x.toNat ^^^ y : Nat) : Int) from xor_u8 hx1 (by omega)]
    obtain ⟨C, hC⟩ : ∃ C : UInt8, C.toNat = x.toNat ^^^ y := ⟨UInt8.ofNat (x.toNat ^^^ y), toNat_ofNat hx2⟩
    rw [← hC]
    have hCne : τ.b[k]? ≠ some C := by
      rw [List.getElem?_eq_getElem hkb, hx]
      intro h
      injection h with h
      rw [← h] at hC
      have h3 := congrArg (fun z => x.toNat ^^^ z) hC
      simp only [← Nat.xor_assoc, Nat.xor_self, Nat.zero_xor] at h3
      omega
    obtain ⟨L1, r, L2, hL12, g1, g2, g3⟩ := ends_in L 0 k (Nat.zero_le _) (by omega)
    simp only [Nat.zero_add] at g1 g2
    obtain ⟨t1, t2, t3, t4⟩ := turned (k := k) (c := C) (L1 := L1) (L2 := L2) (r := r) (Z := 500) (u := (layAll 0 L).length) (by rw [← hL12]; exact okR) hlim g1 g2 hCne
    refine hp.one B26 rfl ?_
    clear hp
    intro v7 b7 s hp _
    replace hp := hp.as (a' := onA (some b7) v7 1 [C].length (byteVals [C])) (by repeat (first | exact Rm.here | apply Rm.there)) (fun o => ⟨.inr ⟨b7, rfl, o⟩⟩) (fun j hj => by injection hj with hj; exact hj.symm)
    conv => whnf
    repeat (refine Br.no rfl ?_; conv => whnf)
    refine hp.sWrite (by repeat (first | exact Rm.here | apply Rm.there)) (k : Int) (l := [C]) (κ := some b7) (by repeat (first | exact Has.here | apply Has.there | (apply Has.swap; repeat (first | exact HasR.here | apply HasR.there)))) ?_
    clear hp
    intro s hp
    rw [t1]
    conv => whnf
    repeat (refine Br.no rfl ?_; conv => whnf)
    refine Sm.ofW ?_
    conv => whnf
    repeat (refine Br.no rfl ?_; conv => whnf)
    generalize (τ.write k [C]).1 = ρ at t2 t3 t4 hp
    refine Sm.live [7, 12, 14] ?_
    conv => whnf
    refine Sm.seqW ?_
    conv => whnf
    refine Sm.seq ?_
    refine Sm.seqW ?_
    conv => whnf
    refine Sm.block ?_
    refine Sm.loop ?_
    refine Lp.ofS (α := Nat) (fun m => [(7, .pointer (some ⟨b1, 0, none⟩)), (12, .slice ae i ce), (14, .int .i64 (k : Int)), (17, .int .i64 ((((endsF 0 L).take m).countP (fun e => decide (e ≤ k)) : Nat) : Int)), (125, .slice ae i ce), (126, .int .i64 (i : Int)), (127, .int .i64 (m : Int))])
      (fun m s' => m ≤ i ∧ s' = s) (fun m => i - m) ?_ 0 (subK_ok (by refine ⟨rfl, rfl, rfl, rfl, rfl, rfl, rfl, trivial⟩)) ⟨Nat.zero_le _, rfl⟩
    rintro m _ ⟨hm, rfl⟩
    refine Sm.seqW ?_
    conv => whnf
    refine Sm.seqW ?_
    conv => whnf
    refine Br.mk (fun hc => ?_) (fun hc => ?_)
    · have hc : m < i := by have := of_decide_eq_true hc; omega
      conv => whnf
      refine Sm.seq (Sm.block ?_)
      refine Sm.seqW ?_
      conv => whnf
      have hml : m < (endsF 0 L).length := by omega
      obtain ⟨p, e1, e2⟩ := int_at (hp.slF (κ := κe) (v := .slice ae i ce) (by repeat (first | exact Rm.here | apply Rm.there))) hel (List.getElem?_eq_getElem hml)
      refine Om.of _ e1 ?_
      conv => whnf
      refine Om.of _ e2 ?_
      conv => whnf
      clear e1 e2
      refine Sm.seqW ?_
      conv => whnf
      have hcnt : ((endsF 0 L).take (m + 1)).countP (fun e => decide (e ≤ k)) = ((endsF 0 L).take m).countP (fun e => decide (e ≤ k)) + (if (endsF 0 L)[m] ≤ k then 1 else 0) := by
        rw [List.take_succ_eq_append_getElem hml, List.countP_append, List.countP_singleton]
        simp only [decide_eq_true_eq]
      have hcl : ((endsF 0 L).take m).countP (fun e => decide (e ≤ k)) ≤ 7 := by
        have := List.countP_le_length (p := fun e => decide (e ≤ k)) (l := (endsF 0 L).take m)
        have h2 : ((endsF 0 L).take m).length ≤ m := by simp; omega
        omega
      have em : IntKind.i64.wrap ((m : Int) + 1) = ((m + 1 : Nat) : Int) := by rw [wi64 (by omega) (by omega)]; push_cast; rfl
      refine Sm.ofW ?_
      conv => whnf
      refine Br.mk (fun hq => ?_) (fun hq => ?_)
      · have hq : (endsF 0 L)[m] ≤ k := by have := of_decide_eq_true hq; omega
        rw [if_pos hq] at hcnt
        conv => whnf
        refine Sm.ofW ?_
        conv => whnf
        have ec : IntKind.i64.wrap (((((endsF 0 L).take m).countP (fun e => decide (e ≤ k)) : Nat) : Int) + 1) = ((((endsF 0 L).take (m + 1)).countP (fun e => decide (e ≤ k)) : Nat) : Int) := by rw [wi64 (by omega) (by omega)]; omega
        refine ⟨m + 1, by (show i - (m + 1) < i - m); omega, subK_ok (by refine ⟨rfl, rfl, rfl, congrArg (fun x => some (Value.int .i64 x)) ec, rfl, rfl, congrArg (fun x => some (Value.int .i64 x)) em, trivial⟩), hc, rfl⟩
      · have hq : ¬ (endsF 0 L)[m] ≤ k := by have := of_decide_eq_false hq; omega
        rw [if_neg hq] at hcnt
        conv => whnf
        refine Sm.ofW ?_
        conv => whnf
        have ec : ((((endsF 0 L).take m).countP (fun e => decide (e ≤ k)) : Nat) : Int) = ((((endsF 0 L).take (m + 1)).countP (fun e => decide (e ≤ k)) : Nat) : Int) := by omega
        refine ⟨m + 1, by (show i - (m + 1) < i - m); omega, subK_ok (by refine ⟨rfl, rfl, rfl, congrArg (fun x => some (Value.int .i64 x)) ec, rfl, rfl, congrArg (fun x => some (Value.int .i64 x)) em, trivial⟩), hc, rfl⟩
    · have hc : m = i := by have := of_decide_eq_false hc; omega
      subst hc
      conv => whnf
      rw [List.take_of_length_le (by omega), g3]
      have ho := open_apart (σ := ρ) (A := 0) (Z := 500) t2.dead t2.limits (by decide) (by decide) (by rw [t2.len]; omega)
      generalize hlp : (parseF ((ρ.b.drop 0).take 500)).1 = LP at t3 t4 ho
      generalize hup : (parseF ((ρ.b.drop 0).take 500)).2 = UP at ho
      have hLP : LP.length ≤ 100000 := by
        have h1 := parseL_le (((ρ.b.drop 0).take 500).length + 1) ((ρ.b.drop 0).take 500) 0 [] (Nat.zero_le _)
        have h2 : (parseL (((ρ.b.drop 0).take 500).length + 1) ((ρ.b.drop 0).take 500) 0 []).1 = LP := hlp
        rw [h2] at h1
        have h3 : ((ρ.b.drop 0).take 500).length ≤ 500 := by simp; omega
        have h4 := h1.2.2
        simp only [List.length_nil] at h4
        omega
      refine Sm.seqW ?_
      conv => whnf
      refine open_spec hp (by repeat (first | exact Rm.here | apply Rm.there)) ((0 : Nat) : Int) ((500 : Nat) : Int) (by unfold inR; decide) (by unfold inR; decide) (fun h => by rw [ho.1] at h; cases h) (fun h => by rw [ho.1] at h; cases h) ?_
      clear hp
      intro ro hro kr3 br3 κ3 v3 s hp
      rw [ho.1] at hro
      injection hro with hro
      subst hro
      have ok2 : RollOk (openF ρ ((0 : Nat) : Int) ((500 : Nat) : Int)).2 ⟨500, 500, 25, [othR]⟩ := okO.apart (t2.trans ho.2) (by show 0 + 500 ≤ 500 ∨ _; omega)
      generalize (openF ρ ((0 : Nat) : Int) ((500 : Nat) : Int)).2 = ρ2 at hp ok2
      conv => whnf
      refine Sm.live [7, 9, 12, 14, 17, 20] ?_
      conv => whnf
      refine Sm.seqW ?_
      conv => whnf
      refine hp.rOpen (by repeat (first | exact Rm.here | apply Rm.there)) ok2 (by decide) (by decide) rfl rfl ?_
      clear hp
      intro kr4 br4 κ4 v4 s hp
      obtain ⟨a4, c4, rfl⟩ := (hp.slF (κ := κ4) (v := v4) (by repeat (first | exact Rm.here | apply Rm.there))).shape
      conv => whnf
      refine Sm.live [9, 11, 12, 14, 17, 20, 21] ?_
      conv => whnf
      refine Sm.seq ?_
      refine Sm.seqW ?_
      conv => whnf
      repeat (refine Br.no rfl ?_; conv => whnf)
      refine Om.of (.bool false) rfl ?_
      conv => whnf
      repeat (refine Br.no rfl ?_; conv => whnf)
      refine Om.of (.bool false) rfl ?_
      conv => whnf
      repeat (refine Br.no rfl ?_; conv => whnf)
      refine hp.callO (records_spec hp (ro := ⟨500, 500, 25, [othR]⟩) (κ := κ4) (v := .slice a4 [othR].length c4) (kr := kr4) (br := br4) (by repeat (first | exact Has.here | apply Has.there | (apply Has.swap; repeat (first | exact HasR.here | apply HasR.there)))) (hp.slF (by repeat (first | exact Rm.here | apply Rm.there))) (by show [othR].length ≤ 100000; decide)) ?_
      clear hp
      intro v8 κ8 s hp _
      obtain ⟨a8, c8, rfl⟩ := (hp.slF (κ := κ8) (v := v8) (by repeat (first | exact Rm.here | apply Rm.there))).shape
      conv => whnf
      repeat (refine Br.no rfl ?_; conv => whnf)
      refine hp.callO (records_spec hp (ro := ⟨500, 500, 25, [othR]⟩) (κ := κ4) (v := .slice a4 [othR].length c4) (kr := kr4) (br := br4) (by repeat (first | exact Has.here | apply Has.there | (apply Has.swap; repeat (first | exact HasR.here | apply HasR.there)))) (hp.slF (by repeat (first | exact Rm.here | apply Rm.there))) (by show [othR].length ≤ 100000; decide)) ?_
      clear hp
      intro v9 κ9 s hp _
      obtain ⟨a9, c9, rfl⟩ := (hp.slF (κ := κ9) (v := v9) (by repeat (first | exact Rm.here | apply Rm.there))).shape
      conv => whnf
      repeat (refine Br.no rfl ?_; conv => whnf)
      obtain ⟨b, off, CC, i1, i2, i3⟩ := fld_at R39 (hp.slF (κ := κ9) (v := .slice a9 [othR].length c9) (by repeat (first | exact Rm.here | apply Rm.there))) .i64 (i := 0) (Nat.zero_lt_one)
      refine Om.of _ i1 ?_
      conv => whnf
      repeat (refine Br.no rfl ?_; conv => whnf)
      refine Om.of _ (load_cell Try.underlying9 rfl rfl i2 (show CC[off + 1]? = some (.string ⟨#[111, 116, 104, 101, 114]⟩) from i3 1 (by decide))) ?_
      conv => whnf
      repeat (refine Br.no rfl ?_; conv => whnf)
      refine Om.of (.bool false) rfl ?_
      conv => whnf
      repeat (refine Br.no rfl ?_; conv => whnf)
      refine Sm.ofW ?_
      conv => whnf
      repeat (refine Br.no rfl ?_; conv => whnf)
      refine Sm.live [12, 14, 17, 20] ?_
      conv => whnf
      refine Sm.seqW ?_
      conv => whnf
      have hu1 : (layAll 0 L1).length ≤ 420 := by omega
      refine Sm.seqC (fun e L' s' => e = .normal ∧ s' = s ∧ Sub [(14, .int .i64 (k : Int)), (17, .int .i64 (L1.length : Int)), (20, .pointer (some ⟨br3, 0, none⟩)), (22, .int .i64 ((layAll 0 L1).length : Int))] L') ?_ ?_
      · conv => whnf
        refine Br.mk (fun hq => ?_) (fun hq => ?_)
        · have hq : 0 < L1.length := by have := of_decide_eq_true hq; omega
          conv => whnf
          have e3 : IntKind.i64.wrap ((L1.length : Int) - 1) = ((L1.length - 1 : Nat) : Int) := by
            have hl2 : L.length = L1.length + (r :: L2).length := by rw [hL12]; simp
            rw [wi64 (by omega) (by omega)]; omega
          rw [e3]
          have hea := ends_at 0 L1 (r :: L2) (fun e => by subst e; exact absurd hq (by decide))
          rw [← hL12, Nat.zero_add] at hea
          obtain ⟨p, e1, e2⟩ := int_at (hp.slF (κ := κe) (v := .slice ae m ce) (by repeat (first | exact Rm.here | apply Rm.there))) hel hea
          refine Om.of _ e1 ?_
          conv => whnf
          refine Om.of _ e2 ?_
          conv => whnf
          exact ⟨rfl, rfl, subK_ok ⟨rfl, rfl, rfl, rfl, trivial⟩⟩
        · have hq : ¬ 0 < L1.length := by have := of_decide_eq_false hq; omega
          conv => whnf
          have h0 : L1 = [] := List.length_eq_zero_iff.1 (by omega)
          refine ⟨rfl, rfl, subK_ok ⟨rfl, rfl, rfl, congrArg (fun x => some (Value.int .i64 x)) ?_, trivial⟩⟩
          rw [h0]; rfl
      rintro e L' s' ⟨rfl, rfl, hsub⟩
      refine Sm.weak _ hsub ?_
      clear hsub
      refine Sm.seq ?_
      refine Sm.seqW ?_
      conv => whnf
      have e2u : IntKind.i64.wrap (((layAll 0 L1).length : Int) + 2) = (((layAll 0 L1).length + 2 : Nat) : Int) := by rw [wi64 (by omega) (by omega)]; push_cast; rfl
      rw [e2u]
      refine Sm.ofW ?_
      conv => whnf
      refine Br.mk (fun hq => ?_) (fun hq => ?_)
      · conv => whnf
        conv => whnf
        obtain ⟨a3, c3, rfl⟩ := (hp.slF (κ := κ3) (v := v3) (by repeat (first | exact Rm.here | apply Rm.there))).shape
        refine hp.callO (records_spec hp (ro := ⟨0, 500, UP, LP⟩) (κ := κ3) (v := .slice a3 LP.length c3) (kr := kr3) (br := br3) (by repeat (first | exact Has.here | apply Has.there | (apply Has.swap; repeat (first | exact HasR.here | apply HasR.there)))) (hp.slF (by repeat (first | exact Rm.here | apply Rm.there))) hLP) ?_
        clear hp
        intro v8 κ8 s hp _
        obtain ⟨a8, c8, rfl⟩ := (hp.slF (κ := κ8) (v := v8) (by repeat (first | exact Rm.here | apply Rm.there))).shape
        conv => whnf
        refine ⟨congrArg Value.bool (decide_eq_true ?_)⟩
        show ((LP.length : Nat) : Int) ≥ (L1.length : Int)
        omega
      · have hq : (layAll 0 L1).length + 2 ≤ k := by have := of_decide_eq_false hq; omega
        conv => whnf
        refine Sm.seqW ?_
        conv => whnf
        obtain ⟨a3, c3, rfl⟩ := (hp.slF (κ := κ3) (v := v3) (by repeat (first | exact Rm.here | apply Rm.there))).shape
        refine hp.callO (records_spec hp (ro := ⟨0, 500, UP, LP⟩) (κ := κ3) (v := .slice a3 LP.length c3) (kr := kr3) (br := br3) (by repeat (first | exact Has.here | apply Has.there | (apply Has.swap; repeat (first | exact HasR.here | apply HasR.there)))) (hp.slF (by repeat (first | exact Rm.here | apply Rm.there))) hLP) ?_
        clear hp
        intro v8 κ8 s hp _
        obtain ⟨a8, c8, rfl⟩ := (hp.slF (κ := κ8) (v := v8) (by repeat (first | exact Rm.here | apply Rm.there))).shape
        conv => whnf
        have := t4 hq
        refine Sm.ofW ?_
        conv => whnf
        refine ⟨congrArg Value.bool (beq_iff_eq.2 ?_)⟩
        show ((LP.length : Nat) : Int) = (L1.length : Int)
        omega
end Go.Ev
