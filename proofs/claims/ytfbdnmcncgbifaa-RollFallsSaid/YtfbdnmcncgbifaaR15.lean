/- What RollFalls says. No condition. -/
import Derived.Test.YtfbdnmcncgbifaaR13
import Derived.Test.YtfbdnmcncgbifaaR14
noncomputable section
namespace Go.Ev
open Go.Proofs
set_option linter.unusedVariables false
set_option maxRecDepth 100000

/-- What is behind the records is 0. -/
theorem RollOk.behind {σ : SL} {A Z u : Nat} {L : List Rr} (h : RollOk σ ⟨A, Z, u, L⟩) : σ.read ((A + u : Nat) : Int) ((Z - u : Nat) : Int) = some (List.replicate (Z - u) 0) := by
  have h1 : A + Z ≤ σ.b.length := h.fits
  have h2 : u = (layAll 0 L).length := h.used
  have h3 : u ≤ Z := h.room
  rw [SL.read_plainR h.dead (by omega) (by omega) (by omega)]
  simp only [Int.toNat_natCast]
  obtain ⟨n, hn⟩ := h.laid.zeros
  have hn : (σ.b.drop A).take Z = layAll 0 L ++ List.replicate n 0 := hn
  have hnl : (layAll 0 L).length + n = Z := by
    have := congrArg List.length hn
    simp at this; omega
  have e : (σ.b.drop (A + u)).take (Z - u) = ((σ.b.drop A).take Z).drop u := by
    rw [List.drop_take, List.drop_drop]
  rw [e, hn, h2, List.drop_left' rfl]
  congr 2
  omega
theorem ne_rr (a b : Rr) (c : Bool) : evBin Try.prog .neq 42 c a.val b.val = some (.bool (!((a.seq == b.seq) && (bs a.body == bs b.body)))) := by
  have e : ∀ p q : Bool, (a.seq == b.seq) = p → (bs a.body == bs b.body) = q → evEq Try.prog 10000 42 a.val b.val = some (p && q) := by
    intro p q h1 h2
    conv => lhs; whnf
    rw [show Try.prog.stoodInHeld 42 = false by decide +kernel]
    show (match (some (a.seq == b.seq) : Option Bool) with | some true => (match (some (bs a.body == bs b.body) : Option Bool) with | some true => some true | some false => some false | none => none) | some false => some false | none => none) = _
    rw [h1, h2]
    cases p <;> cases q <;> rfl
  have hg : Try.prog.eqGuardType Try.prog.depth 42 = false := by decide +kernel
  show (match !(Try.prog.eqGuardType Try.prog.depth 42) with | false => none | true => (match evEq Try.prog 10000 42 a.val b.val with | some b => some (Value.bool (!b)) | none => none)) = _
  rw [hg, e _ _ rfl rfl]; rfl
theorem ne_same (a : Rr) (c : Bool) : evBin Try.prog .neq 42 c a.val a.val = some (.bool false) := by rw [ne_rr]; simp
theorem wrapR (n : Int) : inR (IntKind.i64.wrap n) := by rw [wrap_i64i]; unfold inR; split <;> omega
theorem falls_walk {z : St} (wf : WF z) {v : Value} {TS : List ByteArray} (hv : Sl z none v 1 TS.length (TS.map Value.string)) (hT : ∀ t ∈ TS, (bs t).length ≤ 140737488351232) (hn : TS.length ≤ 140737488351232) {cut torn : Int} (hcut : inR cut) (htorn : inR torn)
    {w : Value} {AG : List Int} (hw : Sl z none w 1 AG.length (AG.map (Value.int .i64))) (hAl : AG.length ≤ 140737488351232) (hAr : ∀ n ∈ AG, inR n) :
    Cw Try.prog 7 [v, .int .i64 cut, .int .i64 torn, w] z fun r _ => r = .bool true := by
  obtain ⟨a, cp, rfl⟩ := hv.shape
  obtain ⟨aw, cw, rfl⟩ := hw.shape
  have hp : Hp (fun _ => False) z [slA none (.slice a TS.length cp) 1 TS.length (TS.map Value.string), slA none (.slice aw AG.length cw) 1 AG.length (AG.map (Value.int .i64))] [] z := Hp.start _ wf _ (by simp; exact ⟨hv, hw⟩)
  refine Cw.enterS Try.func7 rfl rfl ?_
  refine Sm.seqW ?_
  conv => whnf
  refine Sm.seqW ?_
  conv => whnf
  refine hp.sFresh 700 (by decide) (by decide) ?_
  clear hp
  intro b1 ks kb σ s hfr hp
  have hlen := hfr.len
  conv => whnf
  refine Sm.live [0, 1, 2, 3, 9] ?_
  conv => whnf
  refine Sm.seqW ?_
  conv => whnf
  have ok0 := zeros_ok (A := 100) (Z := 500) hfr.dead (by omega) hfr.zero
  refine hp.rOpen (by repeat (first | exact Rm.here | apply Rm.there)) ok0 (by decide) (by decide) rfl rfl ?_
  clear hp
  intro kr br κ v s hp
  conv => whnf
  refine Sm.live [0, 1, 2, 3, 9, 10, 11] ?_
  conv => whnf
  refine Sm.seq ?_
  refine Sm.seqW ?_
  conv => whnf
  refine (rknown_spec hp.wf).mono ?_
  rintro _ s' ⟨rfl, k1⟩
  replace hp := hp.k0 k1
  clear k1
  conv => whnf
  repeat (first | (refine Br.yes (by first | with_reducible rfl | rfl) ?_; conv => whnf) | (refine Br.no (by first | with_reducible rfl | rfl) ?_; conv => whnf))
  refine Om.of (.bool false) rfl ?_
  conv => whnf
  repeat (first | (refine Br.yes (by first | with_reducible rfl | rfl) ?_; conv => whnf) | (refine Br.no (by first | with_reducible rfl | rfl) ?_; conv => whnf))
  refine Om.of (.bool false) rfl ?_
  conv => whnf
  repeat (first | (refine Br.yes (by first | with_reducible rfl | rfl) ?_; conv => whnf) | (refine Br.no (by first | with_reducible rfl | rfl) ?_; conv => whnf))
  refine Sm.ofW ?_
  conv => whnf
  repeat (first | (refine Br.yes (by first | with_reducible rfl | rfl) ?_; conv => whnf) | (refine Br.no (by first | with_reducible rfl | rfl) ?_; conv => whnf))
  refine Sm.live [0, 1, 2, 3, 9, 10] ?_
  conv => whnf
  refine Sm.seqW ?_
  conv => whnf
  refine (pick_spec _ hcut (by omega) (by omega)).mono ?_
  rintro _ _ ⟨rfl, rfl⟩
  conv => whnf
  refine (pick_spec _ htorn (by omega) (by omega)).mono ?_
  rintro _ _ ⟨rfl, rfl⟩
  conv => whnf
  refine hp.sCut (by repeat (first | exact Rm.here | apply Rm.there)) _ _ ?_
  clear hp
  intro vq s hp
  conv => whnf
  refine Sm.live [0, 3, 9, 10] ?_
  conv => whnf
  refine Sm.seqW ?_
  conv => whnf
  have okS : RollOk { σ with left := cut % 8, torn := torn % 70, limits := decide (cut % 8 ≥ 0) } ⟨100, 500, 0, []⟩ := ⟨ok0.dead, ok0.fits, ok0.used, ok0.room, ok0.laid⟩
  have hlS : ({ σ with left := cut % 8, torn := torn % 70, limits := decide (cut % 8 ≥ 0) } : SL).b.length = 700 := hlen
  generalize ({ σ with left := cut % 8, torn := torn % 70, limits := decide (cut % 8 ≥ 0) } : SL) = σ' at okS hlS hp
  clear ok0 hfr hlen
  refine Sm.seq ?_
  refine Sm.seqW ?_
  conv => whnf
  refine Sm.block ?_
  refine Sm.loop ?_
  refine Lp.ofS (α := Nat × List Rr × SL × Nat × Nat × Option Nat × Value × Option Nat × Value) (fun x => [(0, .slice a TS.length cp), (3, .slice aw AG.length cw), (9, .pointer (some ⟨b1, 0, none⟩)), (10, .pointer (some ⟨x.2.2.2.2.1, 0, none⟩)), (12, x.2.2.2.2.2.2.2.2), (13, .int .i64 (x.1 : Int))])
    (fun x s' => x.1 ≤ 8 ∧ (layAll 0 x.2.1).length ≤ 60 * x.1 ∧ x.2.1.length ≤ x.1 ∧ RollOk x.2.2.1 ⟨100, 500, (layAll 0 x.2.1).length, x.2.1⟩ ∧ x.2.2.1.b.length = 700 ∧ lastF x.2.1 ≤ 3 * (x.1 : Int) ∧
      Hp (fun _ => False) z [slA none (.slice a TS.length cp) 1 TS.length (TS.map Value.string), slA none (.slice aw AG.length cw) 1 AG.length (AG.map (Value.int .i64))]
        [onA x.2.2.2.2.2.2.2.1 x.2.2.2.2.2.2.2.2 2 x.2.1.length (rrCells x.2.1), blkA x.2.2.2.1 x.2.2.2.2.1 (roCells (.pointer (some ⟨b1, 0, none⟩)) ⟨100, 500, (layAll 0 x.2.1).length, x.2.1⟩ x.2.2.2.2.2.2.1) 5, onA x.2.2.2.2.2.1 x.2.2.2.2.2.2.1 2 x.2.1.length (rrCells x.2.1), slabA (.pointer (some ⟨b1, 0, none⟩)) ks kb x.2.2.1] s')
    (fun x => 8 - x.1) ?_ (0, [], σ', kr, br, κ, v, none, .slice none 0 0) (subK_ok (by refine ⟨rfl, rfl, rfl, rfl, rfl, rfl, trivial⟩)) ⟨Nat.zero_le _, Nat.le_refl _, Nat.le_refl _, okS, hlS, Int.le_refl _, (hp.nilA 2).pik (by repeat (first | exact Pik.nil | exact Pik.refl _ | exact Rm.here | apply Rm.there | apply Pik.cons | apply Pik.skip))⟩
  clear hp okS hlS
  clear kr br κ v vq
  rintro ⟨i, L, τ, kr, br, κl, vl, κh, vh⟩ s ⟨hi, hu, hL, okR, hbl, hlast, hp⟩
  simp only at hi hu hL okR hbl hlast hp
  obtain ⟨al, cl, rfl⟩ := (hp.slF (κ := κl) (v := vl) (by repeat (first | exact Rm.here | apply Rm.there))).shape
  obtain ⟨ah, ch, rfl⟩ := (hp.slF (κ := κh) (v := vh) (by repeat (first | exact Rm.here | apply Rm.there))).shape
  refine Sm.seq ?_
  refine Sm.seqC (fun e L' s' => e = .normal ∧ s' = s ∧ Sub [(0, .slice a TS.length cp), (3, .slice aw AG.length cw), (9, .pointer (some ⟨b1, 0, none⟩)), (10, .pointer (some ⟨br, 0, none⟩)), (12, .slice ah L.length ch), (13, .int .i64 (i : Int)), (61, .bool (decide (i < TS.length ∧ i < 8)))] L') ?_ ?_
  · conv => whnf
    refine Br.mk (fun hc => ?_) (fun hc => ?_)
    · have hc : i < TS.length := by have := of_decide_eq_true hc; omega
      conv => whnf
      have d : decide ((i : Int) < (TS.length : Int)) = true := decide_eq_true (by omega)
      repeat (refine Br.yes d ?_; conv => whnf)
      refine ⟨rfl, rfl, subK_ok ⟨rfl, rfl, rfl, rfl, rfl, rfl, congrArg (fun x => some (Value.bool x)) ?_, trivial⟩⟩
      simp only [hc, true_and]
      exact decide_eq_decide.2 (by omega)
    · have hc : ¬ i < TS.length := by have := of_decide_eq_false hc; omega
      conv => whnf
      have d : decide ((i : Int) < (TS.length : Int)) = false := decide_eq_false (by omega)
      repeat (refine Br.no d ?_; conv => whnf)
      refine ⟨rfl, rfl, subK_ok ⟨rfl, rfl, rfl, rfl, rfl, rfl, congrArg (fun x => some (Value.bool x)) ?_, trivial⟩⟩
      simp [hc]
  rintro e L' s' ⟨rfl, rfl, hsub⟩
  refine Sm.weak _ hsub ?_
  clear hsub
  refine Sm.ofW ?_
  conv => whnf
  refine Br.mk (fun hc => ?_) (fun hc => ?_)
  · obtain ⟨hc, hc8⟩ : i < TS.length ∧ i < 8 := of_decide_eq_true hc
    have hti := hT _ (List.getElem_mem hc)
    conv => whnf
    refine Sm.seq (Sm.block ?_)
    refine Sm.seqW ?_
    conv => whnf
    have eq1 : IntKind.i64.wrap (1 + IntKind.i64.wrap (3 * (i : Int))) = ((1 + 3 * i : Nat) : Int) := by rw [wi64 (n := 3 * (i : Int)) (by omega) (by omega), wi64 (by omega) (by omega)]; push_cast; rfl
    rw [eq1]
    obtain ⟨p, e1, e2⟩ := str_at (hp.slR .here) hc
    refine Om.of _ e1 ?_
    conv => whnf
    refine Om.of _ e2 ?_
    conv => whnf
    clear e1 e2
    generalize TS[i] = t at hti
    refine hp.bytesOf Try.underlying9 Try.underlying32 Try.underlying5 t ?_
    clear hp
    intro bt s hp _
    conv => whnf
    refine hp.callO (few_spec hp.wf (hp.blkSl (n := (bs t).length) (m := (by repeat (first | exact Has.here | apply Has.there | (apply Has.swap; repeat (first | exact HasR.here | apply HasR.there))) : Has (blkA bt bt (byteVals (bs t)) 1) _ _)) (by rw [byteVals_length]; omega)) (by omega) 40) ?_
    clear hp
    intro w3 κ3 s hp _
    conv => whnf
    refine Om.of _ (string_sl (src := 32) (dst := 9) Try.underlying32 Try.underlying9 Try.underlying5 (hp.slF (κ := κ3) (v := w3) .here)) ?_
    conv => whnf
    have hcut : (⟨((bs t).take 40).toArray⟩ : ByteArray) = cutT t 40 := rfl
    rw [hcut]
    have hm : (bs (cutT t 40)).length ≤ 40 := by rw [bs_cut]; simp; omega
    generalize cutT t 40 = x at hm
    refine hp.alloc (cs := Rr.cells ⟨0, ⟨#[]⟩⟩) (e := 2) rfl rfl rfl rfl rfl ?_
    clear hp
    intro b7 s hp _
    conv => whnf
    refine hp.storeW (vs := Rr.cells ⟨((1 + 3 * i : Nat) : Int), x⟩) rfl (by repeat (first | exact Rm.here | apply Rm.there)) (by rfl) rfl rfl rfl ?_
    clear hp
    intro s hp _
    conv => whnf
    refine Sm.live [0, 3, 9, 10, 12, 13, 14] ?_
    conv => whnf
    refine Sm.seqW ?_
    conv => whnf
    (refine hp.load (by repeat (first | exact Has.here | apply Has.there | (apply Has.swap; repeat (first | exact HasR.here | apply HasR.there)))) (by rfl) rfl rfl rfl ?_; conv => whnf)
    (refine hp.load (by repeat (first | exact Has.here | apply Has.there | (apply Has.swap; repeat (first | exact HasR.here | apply HasR.there)))) (by rfl) rfl rfl rfl ?_; conv => whnf)
    generalize hr : (⟨((1 + 3 * i : Nat) : Int), x⟩ : Rr) = r at hp
    have hrok : r.ok := by rw [← hr]; exact ⟨by show -9223372036854775808 ≤ ((1 + 3 * i : Nat) : Int) ∧ ((1 + 3 * i : Nat) : Int) < 9223372036854775808; omega, by show (bs x).length ≤ 420; omega⟩
    have hrs : r.seq = ((1 + 3 * i : Nat) : Int) := by rw [← hr]
    have hrb : r.body = x := by rw [← hr]
    have hlay : (layF r ((layAll 0 L).length : Nat)).length = 20 + (bs x).length := by
      rw [layF_len, hrb, enc_small (by omega)]
    have hL2 : (layAll 0 (L ++ [r])).length = (layAll 0 L).length + (layF r ((layAll 0 L).length : Nat)).length := by
      rw [layAll_append, List.length_append]; simp [layAll]
    refine append_spec hp (ro := ⟨100, 500, (layAll 0 L).length, L⟩) (kr := kr) (br := br) (σ := τ) (ks := ks) (kb := kb) (by repeat (first | exact Rm.here | apply Rm.there)) (by repeat (first | exact Rm.here | apply Rm.there)) (by repeat (first | exact Rm.here | apply Rm.there)) (by show 500 ≤ 8192; decide) (by show (layAll 0 L).length ≤ 8192; omega) (by show 100 ≤ 65536; decide) (by show L.length ≤ 10000; omega) r (by rw [hrb]; omega) ?_
    clear hp
    intro v' κ' s hp
    obtain ⟨τ', hap, hor, hbl'⟩ : ∃ τ', ((appF τ ⟨100, 500, (layAll 0 L).length, L⟩ r = (.ok, τ', ⟨100, 500, (layAll 0 (L ++ [r])).length, L ++ [r]⟩) ∧ RollOk τ' ⟨100, 500, (layAll 0 (L ++ [r])).length, L ++ [r]⟩) ∨ (appF τ ⟨100, 500, (layAll 0 L).length, L⟩ r = (.down, τ', ⟨100, 500, (layAll 0 L).length, L⟩) ∧ (Falls τ' 100 500 L ∨ Falls τ' 100 500 (L ++ [r])))) ∧ True ∧ τ'.b.length = 700 := by
      rcases okR.append_or hrok (by omega) (by omega) with ⟨τ', g1, g2, g3⟩ | ⟨τ', g1, g2, g3⟩
      · exact ⟨τ', .inl ⟨g1, g2⟩, trivial, by omega⟩
      · exact ⟨τ', .inr ⟨g1, g2⟩, trivial, by omega⟩
    clear hor
    have hlast2 : lastF (L ++ [r]) ≤ 3 * ((i + 1 : Nat) : Int) := by rw [lastF_snoc]; omega
    have hui : (layAll 0 (L ++ [r])).length ≤ 60 * (i + 1) := by omega
    have hLi : (L ++ [r]).length ≤ i + 1 := by simp; omega
    have ei : IntKind.i64.wrap ((i : Int) + 1) = ((i + 1 : Nat) : Int) := by rw [wi64 (by omega) (by omega)]; push_cast; rfl
    rcases hap with ⟨hap, okR'⟩ | ⟨hap, hfalls⟩
    · rw [hap] at hp ⊢
      conv => whnf
      refine Sm.live [0, 3, 9, 10, 12, 13, 14, 15] ?_
      conv => whnf
      refine Sm.seqW ?_
      conv => whnf
      refine hp.loadA (l := r.cells) (by repeat (first | exact Has.here | apply Has.there | (apply Has.swap; repeat (first | exact HasR.here | apply HasR.there)))) rfl (by rfl) rfl rfl ?_
      conv => whnf
      refine hp.rec2 r ?_
      clear hp
      intro v8 b8 s hp _
      conv => whnf
      have x8 : Srr s (some b8) v8 [r] := Own.sl (hp.okF _ List.mem_cons_self)
      refine hp.app R39 Try.underlying39 rfl (κ := κh) (v := .slice ah L.length ch) (by repeat (first | exact Rm.here | apply Rm.there)) (elems_sl x8) rfl (rrCells_one [r]) (by simp only [List.length_singleton]; omega) ?_
      clear hp x8
      intro v9 κ9 s hp
      rw [← rrCells_append, ← List.length_append] at hp
      conv => whnf
      refine Sm.live [0, 3, 9, 10, 12, 13, 15] ?_
      conv => whnf
      refine Sm.seqW ?_
      conv => whnf
      refine Sm.ofW ?_
      conv => whnf
      refine Br.no rfl ?_
      conv => whnf
      refine Sm.ofW ?_
      conv => whnf
      refine ⟨(i + 1, L ++ [r], τ', kr, br, κ', v', κ9, v9), by (show 8 - (i + 1) < 8 - i); omega, subK_ok (by refine ⟨rfl, rfl, rfl, rfl, rfl, congrArg (fun x => some (Value.int .i64 x)) ei, trivial⟩), hc8, hui, hLi, okR', hbl', hlast2, ?_⟩
      exact hp.pik (by repeat (first | exact Pik.nil | exact Pik.refl _ | exact Rm.here | apply Rm.there | apply Pik.cons | apply Pik.skip))
    · rw [hap] at hp ⊢
      conv => whnf
      refine Sm.live [0, 3, 9, 10, 12, 13, 14, 15] ?_
      conv => whnf
      refine Sm.seqW ?_
      conv => whnf
      refine hp.loadA (l := r.cells) (by repeat (first | exact Has.here | apply Has.there | (apply Has.swap; repeat (first | exact HasR.here | apply HasR.there)))) rfl (by rfl) rfl rfl ?_
      conv => whnf
      refine hp.rec2 r ?_
      clear hp
      intro v8 b8 s hp _
      conv => whnf
      have x8 : Srr s (some b8) v8 [r] := Own.sl (hp.okF _ List.mem_cons_self)
      refine hp.app R39 Try.underlying39 rfl (κ := κh) (v := .slice ah L.length ch) (by repeat (first | exact Rm.here | apply Rm.there)) (elems_sl x8) rfl (rrCells_one [r]) (by simp only [List.length_singleton]; omega) ?_
      clear hp x8
      intro v9 κ9 s hp
      rw [← rrCells_append, ← List.length_append] at hp
      obtain ⟨a9, c9, rfl⟩ := (hp.slF (κ := κ9) (v := v9) (by repeat (first | exact Rm.here | apply Rm.there))).shape
      conv => whnf
      refine Sm.live [0, 3, 9, 12, 13, 15] ?_
      conv => whnf
      refine Sm.seqW ?_
      conv => whnf
      refine Sm.cond (v := true) rfl (fun _ => ?_) (fun h => by cases h)
      refine Sm.seq ?_
      refine Sm.seqW ?_
      conv => whnf
      refine Sm.ofW ?_
      conv => whnf
      refine Br.no rfl ?_
      conv => whnf
      obtain ⟨LS, hLS, hfal⟩ : ∃ LS, (LS = L ∨ LS = L ++ [r]) ∧ Falls τ' 100 500 LS := by
        rcases hfalls with h | h
        · exact ⟨_, .inl rfl, h⟩
        · exact ⟨_, .inr rfl, h⟩
      clear hfalls
      refine Sm.live [0, 3, 9, 12, 13] ?_
      conv => whnf
      -- some openings that fall
      refine Sm.seq ?_
      refine Sm.seqW ?_
      conv => whnf
      refine Sm.block ?_
      refine Sm.loop ?_
      refine Lp.ofS (α := Nat × SL) (fun y => [(9, .pointer (some ⟨b1, 0, none⟩)), (0, .slice a TS.length cp), (3, .slice aw AG.length cw), (12, .slice a9 (L ++ [r]).length c9), (13, .int .i64 (i : Int)), (89, .slice aw AG.length cw), (90, .int .i64 (AG.length : Int)), (91, .int .i64 (y.1 : Int))])
        (fun y s' => y.1 ≤ AG.length ∧ Falls y.2 100 500 LS ∧ y.2.b.length = 700 ∧ Hp (fun _ => False) z [slA none (.slice a TS.length cp) 1 TS.length (TS.map Value.string), slA none (.slice aw AG.length cw) 1 AG.length (AG.map (Value.int .i64))]
          [onA κ9 (.slice a9 (L ++ [r]).length c9) 2 (L ++ [r]).length (rrCells (L ++ [r])), slabA (.pointer (some ⟨b1, 0, none⟩)) ks kb y.2] s')
        (fun y => AG.length - y.1) ?_ (0, τ') (subK_ok (by refine ⟨rfl, rfl, rfl, rfl, rfl, rfl, rfl, rfl, trivial⟩)) ⟨Nat.zero_le _, hfal, hbl', hp.pik (by repeat (first | exact Pik.nil | exact Pik.refl _ | exact Rm.here | apply Rm.there | apply Pik.cons | apply Pik.skip))⟩
      clear hp hfal
      clear hbl' hbl okR hap
      rintro ⟨m, ρ⟩ s ⟨hma, hfal, hbl, hp⟩
      simp only at hma hfal hbl hp
      refine Sm.seqW ?_
      conv => whnf
      refine Sm.seqW ?_
      conv => whnf
      refine Br.mk (fun hc => ?_) (fun hc => ?_)
      · have hc : m < AG.length := by have := of_decide_eq_true hc; omega
        conv => whnf
        refine Sm.seq (Sm.block ?_)
        refine Sm.seqW ?_
        conv => whnf
        obtain ⟨p, y, e1, e2, e3, ap, rfl⟩ := index_sl IN Try.underlying3 rfl (hp.slR (.there .here)) .i64 hc
        obtain rfl : y = .int .i64 AG[m] := by simp [hc] at e2; exact e2.symm
        refine Om.of _ e1 ?_
        conv => whnf
        refine Om.of _ e3 ?_
        conv => whnf
        have hg := hAr _ (List.getElem_mem hc)
        generalize AG[m] = g at hg
        clear e1 e2 e3
        refine Sm.live [0, 3, 9, 12, 13, 17, 89, 90, 91] ?_
        conv => whnf
        refine Sm.seqW ?_
        conv => whnf
        refine hp.sRevive (by repeat (first | exact Rm.here | apply Rm.there)) ?_
        clear hp
        intro vq s hp
        conv => whnf
        refine Sm.live [0, 3, 9, 12, 13, 17, 89, 90, 91] ?_
        conv => whnf
        refine Sm.seqW ?_
        conv => whnf
        refine (pick_spec _ hg (by omega) (by omega)).mono ?_
        rintro _ _ ⟨rfl, rfl⟩
        conv => whnf
        refine Om.of (.int .i64 (IntKind.i64.wrap (g.tdiv 3))) rfl ?_
        conv => whnf
        refine (pick_spec _ (wrapR _) (by omega) (by omega)).mono ?_
        rintro _ _ ⟨rfl, rfl⟩
        conv => whnf
        refine hp.sCut (by repeat (first | exact Rm.here | apply Rm.there)) _ _ ?_
        clear hp
        intro vr s hp
        conv => whnf
        refine Sm.live [0, 3, 9, 12, 13, 89, 90, 91] ?_
        conv => whnf
        refine Sm.ofW ?_
        conv => whnf
        generalize hρ : ({ left := g % 3, torn := IntKind.i64.wrap (g.tdiv 3) % 33, writes := _, dead := _, limits := _, b := _ } : SL) = ρ1 at hp
        have hf1 : Falls ρ1 100 500 LS := by rw [← hρ]; exact hfal.of_b rfl
        have hb1 : ρ1.b.length = 700 := by rw [← hρ]; exact hbl
        rcases hf1.open (by decide) (by decide) with ⟨ρ2, ho, ok2, hl2⟩ | ⟨ρ2, ho, hf2, hl2⟩
        · refine open_spec hp (by repeat (first | exact Rm.here | apply Rm.there)) ((100 : Nat) : Int) ((500 : Nat) : Int) (by unfold inR; decide) (by unfold inR; decide) (fun h => by rw [ho] at h; cases h) (fun h => by rw [ho] at h; cases h) ?_
          clear hp
          intro ro _ kr3 br3 κ3 v3 s hp
          rw [ho] at hp
          conv => whnf
          refine Sm.ofW ?_
          conv => whnf
          have em : IntKind.i64.wrap ((m : Int) + 1) = ((m + 1 : Nat) : Int) := by rw [wi64 (by omega) (by omega)]; push_cast; rfl
          refine ⟨(m + 1, ρ2), by (show AG.length - (m + 1) < AG.length - m); omega, subK_ok (by refine ⟨rfl, rfl, rfl, rfl, rfl, rfl, rfl, congrArg (fun x => some (Value.int .i64 x)) em, trivial⟩), hc, ok2.falls, by (show ρ2.b.length = 700); omega, hp.pik (by repeat (first | exact Pik.nil | exact Pik.refl _ | exact Rm.here | apply Rm.there | apply Pik.cons | apply Pik.skip))⟩
        · refine open_spec hp (by repeat (first | exact Rm.here | apply Rm.there)) ((100 : Nat) : Int) ((500 : Nat) : Int) (by unfold inR; decide) (by unfold inR; decide) (fun h => by rw [ho] at h; cases h) ?_ (fun _ h => by rw [ho] at h; cases h)
          clear hp
          intro _ s hp
          rw [ho] at hp
          conv => whnf
          refine Sm.ofW ?_
          conv => whnf
          have em : IntKind.i64.wrap ((m : Int) + 1) = ((m + 1 : Nat) : Int) := by rw [wi64 (by omega) (by omega)]; push_cast; rfl
          refine ⟨(m + 1, ρ2), by (show AG.length - (m + 1) < AG.length - m); omega, subK_ok (by refine ⟨rfl, rfl, rfl, rfl, rfl, rfl, rfl, congrArg (fun x => some (Value.int .i64 x)) em, trivial⟩), hc, hf2, by (show ρ2.b.length = 700); omega, hp.pik (by repeat (first | exact Pik.nil | exact Pik.refl _ | exact Rm.here | apply Rm.there | apply Pik.cons | apply Pik.skip))⟩
      · clear hc
        conv => whnf
        refine Sm.seqW ?_
        conv => whnf
        refine hp.sRevive (by repeat (first | exact Rm.here | apply Rm.there)) ?_
        clear hp
        intro vq s hp
        have hf1 : Falls ({ ρ with dead := false, limits := false } : SL) 100 500 LS := hfal.of_b rfl
        obtain ⟨ρ2, ho, ok2, hl2⟩ := hf1.open_ok rfl rfl (by decide) (by decide)
        have hb2 : ρ2.b.length = 700 := by rw [hl2]; exact hbl
        generalize ({ ρ with dead := false, limits := false } : SL) = ρ1 at hp ho
        clear hf1 hl2
        conv => whnf
        refine Sm.live [0, 3, 9, 12, 13] ?_
        conv => whnf
        refine Sm.seqW ?_
        conv => whnf
        refine open_spec hp (by repeat (first | exact Rm.here | apply Rm.there)) ((100 : Nat) : Int) ((500 : Nat) : Int) (by unfold inR; decide) (by unfold inR; decide) (fun h => by rw [ho] at h; cases h) (fun h => by rw [ho] at h; cases h) ?_
        clear hp
        intro ro hro kr5 br5 κ5 v5 s hp
        rw [ho] at hro hp
        injection hro with hro
        subst hro
        clear ho
        obtain ⟨a5, c5, rfl⟩ := (hp.slF (κ := κ5) (v := v5) (by repeat (first | exact Rm.here | apply Rm.there))).shape
        have hLSl : LS.length ≤ 9 ∧ L.length ≤ LS.length ∧ LS.length ≤ (L ++ [r]).length := by
          rcases hLS with rfl | rfl
          · simp; omega
          · simp; omega
        conv => whnf
        refine Sm.live [0, 3, 9, 12, 13, 18, 19] ?_
        conv => whnf
        refine Sm.seq ?_
        refine Sm.seqW ?_
        conv => whnf
        repeat (refine Br.no rfl ?_; conv => whnf)
        refine Om.of (.bool false) rfl ?_
        conv => whnf
        repeat (refine Br.no rfl ?_; conv => whnf)
        refine Sm.ofW ?_
        conv => whnf
        repeat (refine Br.no rfl ?_; conv => whnf)
        refine Sm.live [0, 3, 9, 12, 13, 18] ?_
        conv => whnf
        refine Sm.seqW ?_
        conv => whnf
        refine hp.callO (records_spec hp (ro := ⟨100, 500, (layAll 0 LS).length, LS⟩) (κ := κ5) (v := .slice a5 LS.length c5) (kr := kr5) (br := br5) (by repeat (first | exact Has.here | apply Has.there | (apply Has.swap; repeat (first | exact HasR.here | apply HasR.there)))) (hp.slF (by repeat (first | exact Rm.here | apply Rm.there))) (by show LS.length ≤ 100000; omega)) ?_
        clear hp
        intro v6 κ6 s hp _
        have hp : Hp _ _ _ (onA κ6 v6 2 LS.length (rrCells LS) :: _) s := hp
        obtain ⟨a6, c6, rfl⟩ := (hp.slF (κ := κ6) (v := v6) (by repeat (first | exact Rm.here | apply Rm.there))).shape
        conv => whnf
        refine Sm.live [0, 3, 9, 12, 13, 18, 20] ?_
        conv => whnf
        refine Sm.seq ?_
        refine Sm.seqW ?_
        conv => whnf
        have d1 : decide ((LS.length : Int) < IntKind.i64.wrap (((L ++ [r]).length : Int) - 1)) = false := decide_eq_false (by
          have : (L ++ [r]).length = L.length + 1 := by simp
          rw [this, wi64 (by omega) (by omega)]; omega)
        have d2 : decide ((LS.length : Int) > ((L ++ [r]).length : Int)) = false := decide_eq_false (by omega)
        repeat (first | (refine Br.no d1 ?_; conv => whnf) | (refine Br.no d2 ?_; conv => whnf))
        refine Sm.ofW ?_
        conv => whnf
        repeat (first | (refine Br.no d1 ?_; conv => whnf) | (refine Br.no d2 ?_; conv => whnf))
        clear d1 d2
        refine Sm.live [0, 3, 9, 12, 13, 18, 20] ?_
        conv => whnf
        have hget : ∀ j (h1 : j < LS.length) (h2 : j < (L ++ [r]).length), LS[j] = (L ++ [r])[j] := by
          intro j h1 h2
          rcases hLS with rfl | rfl
          · rw [List.getElem_append_left h1]
          · rfl
        refine Sm.seq ?_
        refine Sm.seqW ?_
        conv => whnf
        refine Sm.block ?_
        refine Sm.loop ?_
        refine Lp.ofS (α := Nat) (fun m => [(0, .slice a TS.length cp), (3, .slice aw AG.length cw), (9, .pointer (some ⟨b1, 0, none⟩)), (12, .slice a9 (L ++ [r]).length c9), (13, .int .i64 (i : Int)), (18, .pointer (some ⟨br5, 0, none⟩)), (20, .slice a6 LS.length c6), (135, .slice a6 LS.length c6), (136, .int .i64 (LS.length : Int)), (137, .int .i64 (m : Int))])
          (fun m s' => m ≤ LS.length ∧ Hp (fun _ => False) z [slA none (.slice a TS.length cp) 1 TS.length (TS.map Value.string), slA none (.slice aw AG.length cw) 1 AG.length (AG.map (Value.int .i64))]
            [onA κ6 (.slice a6 LS.length c6) 2 LS.length (rrCells LS), onA κ9 (.slice a9 (L ++ [r]).length c9) 2 (L ++ [r]).length (rrCells (L ++ [r])), blkA kr5 br5 (roCells (.pointer (some ⟨b1, 0, none⟩)) ⟨100, 500, (layAll 0 LS).length, LS⟩ (.slice a5 LS.length c5)) 5, onA κ5 (.slice a5 LS.length c5) 2 LS.length (rrCells LS), slabA (.pointer (some ⟨b1, 0, none⟩)) ks kb ρ2] s')
          (fun m => LS.length - m) ?_ 0 (subK_ok (by refine ⟨rfl, rfl, rfl, rfl, rfl, rfl, rfl, rfl, rfl, rfl, trivial⟩)) ⟨Nat.zero_le _, hp.pik (by repeat (first | exact Pik.nil | exact Pik.refl _ | exact Rm.here | apply Rm.there | apply Pik.cons | apply Pik.skip))⟩
        clear hp
        rintro j s ⟨hj, hp⟩
        refine Sm.seqW ?_
        conv => whnf
        refine Sm.seqW ?_
        conv => whnf
        refine Br.mk (fun hc => ?_) (fun hc => ?_)
        · have hc : j < LS.length := by have := of_decide_eq_true hc; omega
          have hc2 : j < (L ++ [r]).length := by omega
          conv => whnf
          refine Sm.seq (Sm.block ?_)
          refine Sm.seqW ?_
          conv => whnf
          obtain ⟨p, e1, e2⟩ := index_rr (hp.slF (κ := κ6) (v := .slice a6 LS.length c6) (by repeat (first | exact Rm.here | apply Rm.there))) hc
          refine Om.of _ e1 ?_
          conv => whnf
          refine Om.of _ e2 ?_
          conv => whnf
          clear e1 e2
          refine hp.alloc (cs := Rr.cells ⟨0, ⟨#[]⟩⟩) (e := 2) rfl rfl rfl rfl rfl ?_
          clear hp
          intro b7 s hp _
          conv => whnf
          refine hp.storeW (vs := LS[j].cells) rfl (by repeat (first | exact Rm.here | apply Rm.there)) (by rfl) rfl rfl rfl ?_
          clear hp
          intro s hp _
          conv => whnf
          refine Sm.live [0, 3, 9, 12, 13, 18, 20, 21, 22, 135, 136, 137] ?_
          conv => whnf
          refine Sm.seqW ?_
          conv => whnf
          refine ⟨[0, 0, 0, 6, 14, 31], by decide +kernel, by decide +kernel, ?_⟩
          conv => whnf
          refine hp.loadA (l := LS[j].cells) (by repeat (first | exact Has.here | apply Has.there | (apply Has.swap; repeat (first | exact HasR.here | apply HasR.there)))) rfl (by rfl) rfl rfl ?_
          conv => whnf
          obtain ⟨p, e1, e2⟩ := index_rr (hp.slF (κ := κ9) (v := .slice a9 (L ++ [r]).length c9) (by repeat (first | exact Rm.here | apply Rm.there))) hc2
          refine Om.of _ e1 ?_
          conv => whnf
          rw [← hget j hc hc2] at e2
          refine Om.of _ e2 ?_
          conv => whnf
          clear e1 e2
          refine Om.of (.bool false) (ne_same LS[j] _) ?_
          conv => whnf
          refine Sm.ofW ?_
          conv => whnf
          refine Br.no rfl ?_
          conv => whnf
          refine Sm.ofW ?_
          conv => whnf
          have em : IntKind.i64.wrap ((j : Int) + 1) = ((j + 1 : Nat) : Int) := by rw [wi64 (by omega) (by omega)]; push_cast; rfl
          refine ⟨j + 1, by (show LS.length - (j + 1) < LS.length - j); omega, subK_ok (by refine ⟨rfl, rfl, rfl, rfl, rfl, rfl, rfl, rfl, rfl, congrArg (fun x => some (Value.int .i64 x)) em, trivial⟩), hc, hp.pik (by repeat (first | exact Pik.nil | exact Pik.refl _ | exact Rm.here | apply Rm.there | apply Pik.cons | apply Pik.skip))⟩
        · clear hc
          conv => whnf
          have hu2 : (layAll 0 LS).length ≤ 60 * (i + 1) := by
            rcases hLS with rfl | rfl
            · omega
            · exact hui
          refine Sm.seqW ?_
          conv => whnf
          refine Sm.seqW ?_
          conv => whnf
          refine Sm.live [0, 3, 9, 10, 12, 13, 18] ?_
          conv => whnf
          refine Sm.seqW ?_
          conv => whnf
          refine (left_spec hp (ro := ⟨100, 500, (layAll 0 LS).length, LS⟩) (v := .slice a5 LS.length c5) (kr := kr5) (br := br5) (by repeat (first | exact Has.here | apply Has.there | (apply Has.swap; repeat (first | exact HasR.here | apply HasR.there)))) (by show 500 ≤ 65536; decide) (by show (layAll 0 LS).length ≤ 65536; omega)).mono ?_
          rintro _ _ ⟨rfl, rfl⟩
          conv => whnf
          refine (left_spec hp (ro := ⟨100, 500, (layAll 0 LS).length, LS⟩) (v := .slice a5 LS.length c5) (kr := kr5) (br := br5) (by repeat (first | exact Has.here | apply Has.there | (apply Has.swap; repeat (first | exact HasR.here | apply HasR.there)))) (by show 500 ≤ 65536; decide) (by show (layAll 0 LS).length ≤ 65536; omega)).mono ?_
          rintro _ _ ⟨rfl, rfl⟩
          conv => whnf
          have el : (((500 : Nat) : Int) - ((layAll 0 LS).length : Nat)) = ((500 - (layAll 0 LS).length : Nat) : Int) := by omega
          have e6 : IntKind.i64.wrap (600 - ((500 - (layAll 0 LS).length : Nat) : Int)) = ((100 + (layAll 0 LS).length : Nat) : Int) := by rw [wi64 (by omega) (by omega)]; omega
          simp only [el, e6]
          have hbeh := ok2.behind
          have hlb : 500 - (layAll 0 LS).length ≤ 500 := Nat.sub_le _ _
          have el2 : (((500 : Nat) : Int) - ((layAll 0 LS).length : Nat)) = ((500 - (layAll 0 LS).length : Nat) : Int) := el
          generalize 500 - (layAll 0 LS).length = Z at hbeh hlb el el2
          refine hp.sRead (by repeat (first | exact Has.here | apply Has.there | (apply Has.swap; repeat (first | exact HasR.here | apply HasR.there)))) _ _ (fun h => by rw [hbeh] at h; cases h) ?_
          clear hp
          intro l8 v8 κ8 s hl8 hp _
          rw [hbeh] at hl8
          injection hl8 with hl8
          subst hl8
          obtain ⟨a8, c8, rfl⟩ := (hp.slF (κ := κ8) (v := v8) (by repeat (first | exact Rm.here | apply Rm.there))).shape
          conv => whnf
          refine Sm.live [0, 3, 9, 10, 12, 13, 18, 23, 24] ?_
          conv => whnf
          refine Sm.ofW ?_
          conv => whnf
          refine ⟨[0, 1, 3, 7, 15, 7, 39, 103, 231, 511, 1023], by decide +kernel, by decide +kernel, ?_⟩
          conv => whnf
          refine Br.no rfl ?_
          conv => whnf
          repeat (refine Br.no rfl ?_; conv => whnf)
          refine Om.of _ (string_sl (src := 32) (dst := 9) Try.underlying32 Try.underlying9 Try.underlying5 (hp.rst.slF (κ := κ8) (v := .slice a8 (List.replicate Z 0).length c8) (by repeat (first | exact Rm.here | apply Rm.there)))) ?_
          conv => whnf
          repeat (refine Br.no rfl ?_; conv => whnf)
          refine hp.dkS ?_
          conv => whnf
          repeat (refine Br.no rfl ?_; conv => whnf)
          refine (left_spec hp.rst (ro := ⟨100, 500, (layAll 0 LS).length, LS⟩) (v := .slice a5 LS.length c5) (kr := kr5) (br := br5) (by repeat (first | exact Has.here | apply Has.there | (apply Has.swap; repeat (first | exact HasR.here | apply HasR.there)))) (by show 500 ≤ 65536; decide) (by show (layAll 0 LS).length ≤ 65536; omega)).mono ?_
          rintro _ _ ⟨rfl, rfl⟩
          conv => whnf
          refine hp.dkS ?_
          conv => whnf
          repeat (refine Br.no rfl ?_; conv => whnf)
          refine hp.rst.mks B26 rfl Z el2 el2 (by omega) ?_
          intro b9 s9 h9 k9
          conv => whnf
          refine hp.dkN h9 k9 ?_
          clear hp h9 k9
          intro s hp
          conv => whnf
          repeat (refine Br.no rfl ?_; conv => whnf)
          rw [← byteVals_replicate] at hp
          refine Om.of _ (string_sl (src := 32) (dst := 9) Try.underlying32 Try.underlying9 Try.underlying5 (Sb.of (hp.rst.blkSl (k := b9) (b := b9) (n := Z) (e := 1) (C := byteVals (List.replicate Z 0)) (by repeat (first | exact Has.here | apply Has.there | (apply Has.swap; repeat (first | exact HasR.here | apply HasR.there)))) (by rw [byteVals_length]; simp)))) ?_
          conv => whnf
          refine hp.dkS ?_
          conv => whnf
          repeat (refine Br.no rfl ?_; conv => whnf)
          refine Om.of (.bool false) (by rw [str_ne]; simp) ?_
          conv => whnf
          repeat (refine Br.no rfl ?_; conv => whnf)
          refine Sm.ofW ?_
          conv => whnf
          have hlast3 : lastF LS ≤ 3 * ((i + 1 : Nat) : Int) := by
            rcases hLS with rfl | rfl
            · omega
            · exact hlast2
          refine ⟨(i + 1, LS, ρ2, kr5, br5, κ5, .slice a5 LS.length c5, κ6, .slice a6 LS.length c6), by (show 8 - (i + 1) < 8 - i); omega, subK_ok (by refine ⟨rfl, rfl, rfl, rfl, rfl, congrArg (fun x => some (Value.int .i64 x)) ei, trivial⟩), hc8, hu2, by (show LS.length ≤ i + 1); omega, ok2, hb2, hlast3, hp.pik (by repeat (first | exact Pik.nil | exact Pik.refl _ | exact Rm.here | apply Rm.there | apply Pik.cons | apply Pik.skip))⟩
  · clear hc
    conv => whnf
    refine Sm.seqW ?_
    conv => whnf
    refine hp.rOpen (by repeat (first | exact Rm.here | apply Rm.there)) okR (by show 32 ≤ 500; decide) (by show 500 ≤ 8192; decide) rfl rfl ?_
    clear hp
    intro kr2 br2 κ2 v2 s hp
    have hp : Hp _ _ _ (blkA kr2 br2 (roCells (.pointer (some ⟨b1, 0, none⟩)) ⟨100, 500, (layAll 0 L).length, L⟩ v2) 5 :: onA κ2 v2 2 L.length (rrCells L) :: _) s := hp
    obtain ⟨a2, c2, rfl⟩ := (hp.slF (κ := κ2) (v := v2) (by repeat (first | exact Rm.here | apply Rm.there))).shape
    conv => whnf
    refine Sm.live [9, 10, 11, 12, 25] ?_
    conv => whnf
    refine Sm.seq ?_
    refine Sm.seqW ?_
    conv => whnf
    refine Sm.ofW ?_
    conv => whnf
    refine Br.no rfl ?_
    conv => whnf
    refine Sm.live [10, 11, 12, 25] ?_
    conv => whnf
    refine Sm.seq ?_
    refine Sm.seqW ?_
    conv => whnf
    repeat (refine Br.no rfl ?_; conv => whnf)
    refine Om.of (.bool false) rfl ?_
    conv => whnf
    repeat (refine Br.no rfl ?_; conv => whnf)
    refine hp.callO (records_spec hp (ro := ⟨100, 500, (layAll 0 L).length, L⟩) (κ := κ2) (v := .slice a2 L.length c2) (kr := kr2) (br := br2) (by repeat (first | exact Has.here | apply Has.there | (apply Has.swap; repeat (first | exact HasR.here | apply HasR.there)))) (hp.slF (by repeat (first | exact Rm.here | apply Rm.there))) (by show L.length ≤ 100000; omega)) ?_
    clear hp
    intro v6 κ6 s hp _
    have hp : Hp _ _ _ (onA κ6 v6 2 L.length (rrCells L) :: _) s := hp
    obtain ⟨a6, c6, rfl⟩ := (hp.slF (κ := κ6) (v := v6) (by repeat (first | exact Rm.here | apply Rm.there))).shape
    conv => whnf
    repeat (refine Br.no rfl ?_; conv => whnf)
    refine Sm.ofW ?_
    conv => whnf
    have d1 : ((L.length : Int) != (L.length : Int)) = false := by simp
    repeat (first | (refine Br.no d1 ?_; conv => whnf) | (refine Br.no rfl ?_; conv => whnf))
    refine Sm.live [10, 12, 25] ?_
    conv => whnf
    refine Sm.seq ?_
    refine Sm.seqW ?_
    conv => whnf
    refine hp.callO (records_spec hp (ro := ⟨100, 500, (layAll 0 L).length, L⟩) (κ := κ2) (v := .slice a2 L.length c2) (kr := kr2) (br := br2) (by repeat (first | exact Has.here | apply Has.there | (apply Has.swap; repeat (first | exact HasR.here | apply HasR.there)))) (hp.slF (by repeat (first | exact Rm.here | apply Rm.there))) (by show L.length ≤ 100000; omega)) ?_
    clear hp
    intro v7 κ7 s hp _
    have hp : Hp _ _ _ (onA κ7 v7 2 L.length (rrCells L) :: _) s := hp
    obtain ⟨a7, c7, rfl⟩ := (hp.slF (κ := κ7) (v := v7) (by repeat (first | exact Rm.here | apply Rm.there))).shape
    conv => whnf
    refine Sm.block ?_
    refine Sm.loop ?_
    refine Lp.ofS (α := Nat) (fun m => [(10, .pointer (some ⟨br, 0, none⟩)), (12, .slice ah L.length ch), (25, .pointer (some ⟨br2, 0, none⟩)), (201, .slice a7 L.length c7), (202, .int .i64 (L.length : Int)), (203, .int .i64 (m : Int))])
      (fun m s' => m ≤ L.length ∧ Hp (fun _ => False) z [slA none (.slice a TS.length cp) 1 TS.length (TS.map Value.string), slA none (.slice aw AG.length cw) 1 AG.length (AG.map (Value.int .i64))]
        [onA κ7 (.slice a7 L.length c7) 2 L.length (rrCells L), onA κh (.slice ah L.length ch) 2 L.length (rrCells L), blkA kr2 br2 (roCells (.pointer (some ⟨b1, 0, none⟩)) ⟨100, 500, (layAll 0 L).length, L⟩ (.slice a2 L.length c2)) 5, blkA kr br (roCells (.pointer (some ⟨b1, 0, none⟩)) ⟨100, 500, (layAll 0 L).length, L⟩ (.slice al L.length cl)) 5] s')
      (fun m => L.length - m) ?_ 0 (subK_ok (by refine ⟨rfl, rfl, rfl, rfl, rfl, rfl, trivial⟩)) ⟨Nat.zero_le _, hp.pik (by repeat (first | exact Pik.nil | exact Pik.refl _ | exact Rm.here | apply Rm.there | apply Pik.cons | apply Pik.skip))⟩
    clear hp
    rintro j s ⟨hj, hp⟩
    refine Sm.seqW ?_
    conv => whnf
    refine Sm.seqW ?_
    conv => whnf
    refine Br.mk (fun hc => ?_) (fun hc => ?_)
    · have hc : j < L.length := by have := of_decide_eq_true hc; omega
      conv => whnf
      refine Sm.seq (Sm.block ?_)
      refine Sm.seqW ?_
      conv => whnf
      obtain ⟨p, e1, e2⟩ := index_rr (hp.slF (κ := κ7) (v := .slice a7 L.length c7) (by repeat (first | exact Rm.here | apply Rm.there))) hc
      refine Om.of _ e1 ?_
      conv => whnf
      refine Om.of _ e2 ?_
      conv => whnf
      clear e1 e2
      refine hp.alloc (cs := Rr.cells ⟨0, ⟨#[]⟩⟩) (e := 2) rfl rfl rfl rfl rfl ?_
      clear hp
      intro b7 s hp _
      conv => whnf
      refine hp.storeW (vs := L[j].cells) rfl (by repeat (first | exact Rm.here | apply Rm.there)) (by rfl) rfl rfl rfl ?_
      clear hp
      intro s hp _
      conv => whnf
      refine Sm.live [10, 12, 25, 26, 27, 201, 202, 203] ?_
      conv => whnf
      refine Sm.seqW ?_
      conv => whnf
      refine ⟨[0, 0, 0, 6, 14, 31], by decide +kernel, by decide +kernel, ?_⟩
      conv => whnf
      refine hp.loadA (l := L[j].cells) (by repeat (first | exact Has.here | apply Has.there | (apply Has.swap; repeat (first | exact HasR.here | apply HasR.there)))) rfl (by rfl) rfl rfl ?_
      conv => whnf
      obtain ⟨p, e1, e2⟩ := index_rr (hp.slF (κ := κh) (v := .slice ah L.length ch) (by repeat (first | exact Rm.here | apply Rm.there))) hc
      refine Om.of _ e1 ?_
      conv => whnf
      refine Om.of _ e2 ?_
      conv => whnf
      clear e1 e2
      refine Om.of (.bool false) (ne_same L[j] _) ?_
      conv => whnf
      refine Sm.ofW ?_
      conv => whnf
      refine Br.no rfl ?_
      conv => whnf
      refine Sm.ofW ?_
      conv => whnf
      have em : IntKind.i64.wrap ((j : Int) + 1) = ((j + 1 : Nat) : Int) := by rw [wi64 (by omega) (by omega)]; push_cast; rfl
      refine ⟨j + 1, by (show L.length - (j + 1) < L.length - j); omega, subK_ok (by refine ⟨rfl, rfl, rfl, rfl, rfl, congrArg (fun x => some (Value.int .i64 x)) em, trivial⟩), hc, hp.pik (by repeat (first | exact Pik.nil | exact Pik.refl _ | exact Rm.here | apply Rm.there | apply Pik.cons | apply Pik.skip))⟩
    · clear hc
      conv => whnf
      refine Sm.live [10, 25] ?_
      conv => whnf
      refine Sm.seqW ?_
      conv => whnf
      refine (left_spec hp (ro := ⟨100, 500, (layAll 0 L).length, L⟩) (v := .slice a2 L.length c2) (kr := kr2) (br := br2) (by repeat (first | exact Has.here | apply Has.there | (apply Has.swap; repeat (first | exact HasR.here | apply HasR.there)))) (by show 500 ≤ 65536; decide) (by show (layAll 0 L).length ≤ 65536; omega)).mono ?_
      rintro _ _ ⟨rfl, rfl⟩
      conv => whnf
      refine (left_spec hp (ro := ⟨100, 500, (layAll 0 L).length, L⟩) (v := .slice al L.length cl) (kr := kr) (br := br) (by repeat (first | exact Has.here | apply Has.there | (apply Has.swap; repeat (first | exact HasR.here | apply HasR.there)))) (by show 500 ≤ 65536; decide) (by show (layAll 0 L).length ≤ 65536; omega)).mono ?_
      rintro _ _ ⟨rfl, rfl⟩
      conv => whnf
      refine Sm.ofW ?_
      conv => whnf
      exact ⟨congrArg Value.bool (beq_iff_eq.2 rfl)⟩
end Go.Ev
