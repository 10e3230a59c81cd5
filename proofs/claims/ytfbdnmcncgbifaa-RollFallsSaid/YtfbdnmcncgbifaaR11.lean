/- What RollRooms says. No condition. -/
import Derived.Test.YtfbdnmcncgbifaaR10
noncomputable section
namespace Go.Ev
open Go.Proofs
set_option linter.unusedVariables false
set_option maxRecDepth 100000

theorem RS : SlT Try.prog 22 9 1 16 (.string ⟨#[]⟩) := ⟨Try.underlying22, ⟨_, rfl, rfl, rfl, rfl⟩, rfl, rfl, by decide, by decide⟩
theorem enc_small {m : Nat} (h : m ≤ 63) : (Pk.encI (m : Int)).length = 1 := by
  unfold Pk.encI Pk.zig
  rw [if_pos (by omega), Pk.encU_eq, if_pos (by omega)]; rfl
theorem enc_mid {m : Nat} (h1 : 63 < m) (h2 : m ≤ 420) : (Pk.encI (m : Int)).length = 2 := by
  unfold Pk.encI Pk.zig
  rw [if_pos (by omega), Pk.encU_eq, if_neg (by omega), Pk.encU_eq, if_pos (by omega)]; rfl
theorem str_at {s : St} {κ : Option Nat} {v : Value} {TS : List ByteArray} (h : Sl s κ v 1 TS.length (TS.map Value.string)) {i : Nat} (hi : i < TS.length) :
    ∃ a, evIndexAddr Try.prog 22 v (.int .i64 (i : Int)) = some (.pointer (some a)) ∧ evLoad Try.prog 9 (.pointer (some a)) s = some (.string TS[i]) := by
  obtain ⟨p, x, e1, e2, e3, a, rfl⟩ := index_sl RS Try.underlying9 rfl h .i64 hi
  obtain rfl : x = .string TS[i] := by simp [hi] at e2; exact e2.symm
  exact ⟨a, e1, e3⟩
/-- A text, its first bytes. -/
def cutT (t : ByteArray) (n : Nat) : ByteArray := ⟨((bs t).take n).toArray⟩
theorem bs_cut (t : ByteArray) (n : Nat) : bs (cutT t n) = (bs t).take n := bs_mk _
theorem rooms_walk {z : St} (wf : WF z) {size : Int} (hsz : inR size) {v : Value} {TS : List ByteArray} (hv : Sl z none v 1 TS.length (TS.map Value.string)) (hT : ∀ t ∈ TS, (bs t).length ≤ 140737488351232) (hn : TS.length ≤ 140737488351232) :
    Cw Try.prog 4 [.int .i64 size, v] z fun r _ => r = .bool true := by
  obtain ⟨a, cp, rfl⟩ := hv.shape
  have hp : Hp (fun _ => False) z [slA none (.slice a TS.length cp) 1 TS.length (TS.map Value.string)] [] z := Hp.start _ wf _ (by simp; exact hv)
  refine Cw.enterS Try.func4 rfl rfl ?_
  refine Sm.seqW ?_
  conv => whnf
  refine Sm.seqW ?_
  conv => whnf
  refine (pick_spec z hsz (by omega) (by omega)).mono ?_
  rintro _ s' ⟨h, rfl⟩
  rw [h]
  clear h s'
  obtain ⟨Z0, hZ0, hZ1⟩ : ∃ k : Nat, size % 300 = (k : Int) ∧ k < 300 := ⟨(size % 300).toNat, by omega, by omega⟩
  have eZ : IntKind.i64.wrap (32 + size % 300) = ((32 + Z0 : Nat) : Int) := by rw [hZ0, wi64 (by omega) (by omega)]; push_cast; rfl
  conv => whnf
  refine Sm.weak [(0, .int .i64 ((32 + Z0 : Nat) : Int)), (1, .slice a TS.length cp)] (subK_ok ⟨congrArg (fun x => some (Value.int .i64 x)) eZ, rfl, trivial⟩) ?_
  have hZ2 : 32 ≤ 32 + Z0 := by omega
  have hZ3 : 32 + Z0 ≤ 331 := by omega
  generalize 32 + Z0 = Z at hZ2 hZ3
  refine Sm.seqW ?_
  conv => whnf
  refine hp.sFresh 400 (by decide) (by decide) ?_
  clear hp
  intro b1 ks kb σ s hfr hp
  have hlen := hfr.len
  conv => whnf
  refine Sm.live [0, 1, 5] ?_
  conv => whnf
  refine Sm.seqW ?_
  conv => whnf
  have ok0 := zeros_ok (A := 20) (Z := Z) hfr.dead (by omega) hfr.zero
  refine hp.rOpen (by repeat (first | exact Rm.here | apply Rm.there)) ok0 hZ2 (by show Z ≤ 8192; omega) rfl rfl ?_
  clear hp
  intro kr br κ v s hp
  conv => whnf
  refine Sm.live [0, 1, 5, 6, 7] ?_
  conv => whnf
  refine Sm.seq ?_
  refine Sm.seqW ?_
  conv => whnf
  refine (rknown_spec hp.wf).mono ?_
  rintro _ s' ⟨rfl, k1⟩
  replace hp := hp.k0 k1
  clear k1
  conv => whnf
  repeat (first | (refine Br.yes (by first | with_reducible rfl | rfl) ?_; conv => whnf) | (refine Br.no (by first | with_reducible rfl | rfl) ?_; conv => whnf))
  refine Om.of (.bool false) rfl ?_
  conv => whnf
  repeat (first | (refine Br.yes (by first | with_reducible rfl | rfl) ?_; conv => whnf) | (refine Br.no (by first | with_reducible rfl | rfl) ?_; conv => whnf))
  refine Om.of (.bool false) rfl ?_
  conv => whnf
  repeat (first | (refine Br.yes (by first | with_reducible rfl | rfl) ?_; conv => whnf) | (refine Br.no (by first | with_reducible rfl | rfl) ?_; conv => whnf))
  refine (left_spec hp (ro := ⟨20, Z, 0, []⟩) (v := v) (kr := kr) (br := br) (by repeat (first | exact Has.here | apply Has.there | (apply Has.swap; repeat (first | exact HasR.here | apply HasR.there)))) (by show Z ≤ 65536; omega) (by show 0 ≤ 65536; omega)).mono ?_
  rintro _ _ ⟨rfl, rfl⟩
  conv => whnf
  have e1 : ((Z : Int) - ((0 : Nat) : Int) != (Z : Int)) = false := by simp
  repeat (first | (refine Br.no e1 ?_; conv => whnf) | (refine Br.no rfl ?_; conv => whnf))
  refine Sm.ofW ?_
  conv => whnf
  repeat (first | (refine Br.no e1 ?_; conv => whnf) | (refine Br.no rfl ?_; conv => whnf))
  clear e1
  refine Sm.live [0, 1, 6] ?_
  conv => whnf
  refine Sm.seqW ?_
  conv => whnf
  refine Sm.seq ?_
  refine Sm.seqW ?_
  conv => whnf
  refine Sm.block ?_
  refine Sm.loop ?_
  refine Lp.ofS (α := Nat × Nat × List Rr × SL × Option Nat × Value) (fun x => [(0, .int .i64 (Z : Int)), (6, .pointer (some ⟨br, 0, none⟩)), (8, .int .i64 (x.1 : Int)), (45, .slice a TS.length cp), (46, .int .i64 (TS.length : Int)), (47, .int .i64 (x.1 : Int))])
    (fun x s' => x.1 ≤ TS.length ∧ RollOk x.2.2.2.1 ⟨20, Z, x.2.1, x.2.2.1⟩ ∧ x.2.2.2.1.limits = false ∧ lastF x.2.2.1 ≤ (x.1 : Int) ∧
      Hp (fun _ => False) z [slA none (.slice a TS.length cp) 1 TS.length (TS.map Value.string)] [blkA kr br (roCells (.pointer (some ⟨b1, 0, none⟩)) ⟨20, Z, x.2.1, x.2.2.1⟩ x.2.2.2.2.2) 5, onA x.2.2.2.2.1 x.2.2.2.2.2 2 x.2.2.1.length (rrCells x.2.2.1), slabA (.pointer (some ⟨b1, 0, none⟩)) ks kb x.2.2.2.1] s')
    (fun x => TS.length - x.1) ?_ (0, 0, [], σ, κ, v) (subK_ok (by refine ⟨rfl, rfl, rfl, rfl, rfl, rfl, trivial⟩)) ⟨Nat.zero_le _, ok0, hfr.limits, by show (0 : Int) ≤ 0; omega, hp.pik (by repeat (first | exact Pik.nil | exact Pik.refl _ | exact Rm.here | apply Rm.there | apply Pik.cons | apply Pik.skip))⟩
  clear hp
  rintro ⟨i, u, L, τ, κl, vl⟩ s ⟨hi, okR, hlim, hlast, hp⟩
  simp only at hi okR hlim hlast hp
  obtain ⟨al, cl, rfl⟩ := (hp.slF (κ := κl) (by repeat (first | exact Rm.here | apply Rm.there))).shape
  have hmin := layAll_min L 0
  have hused : u = (layAll 0 L).length := okR.used
  have hroom : u ≤ Z := okR.room
  refine Sm.seqW ?_
  conv => whnf
  refine Sm.seqW ?_
  conv => whnf
  refine Br.mk (fun hc => ?_) (fun hc => ?_)
  · have hc : i < TS.length := by have := of_decide_eq_true hc; omega
    have hti := hT _ (List.getElem_mem hc)
    conv => whnf
    refine Sm.seq (Sm.block ?_)
    refine Sm.seqW ?_
    conv => whnf
    obtain ⟨p, e1, e2⟩ := str_at (hp.slR .here) hc
    refine Om.of _ e1 ?_
    conv => whnf
    refine Om.of _ e2 ?_
    conv => whnf
    clear e1 e2
    generalize TS[i] = t at hti
    refine Sm.live [0, 6, 8, 10, 45, 46, 47] ?_
    conv => whnf
    -- its first bytes
    refine Sm.seqW ?_
    conv => whnf
    refine hp.bytesOf Try.underlying9 Try.underlying32 Try.underlying5 t ?_
    clear hp
    intro bt s hp _
    conv => whnf
    refine hp.callO (few_spec hp.wf (hp.blkSl (n := (bs t).length) (m := (by repeat (first | exact Has.here | apply Has.there | (apply Has.swap; repeat (first | exact HasR.here | apply HasR.there))) : Has (blkA bt bt (byteVals (bs t)) 1) _ _)) (by rw [byteVals_length]; omega)) (by omega) 150) ?_
    clear hp
    intro w3 κ3 s hp _
    conv => whnf
    refine Om.of _ (string_sl (src := 32) (dst := 9) Try.underlying32 Try.underlying9 Try.underlying5 (hp.slF (κ := κ3) (v := w3) .here)) ?_
    conv => whnf
    have hcut : (⟨((bs t).take 150).toArray⟩ : ByteArray) = cutT t 150 := rfl
    rw [hcut]
    have hm : (bs (cutT t 150)).length ≤ 150 := by rw [bs_cut]; simp; omega
    generalize cutT t 150 = x at hm
    refine Sm.live [0, 6, 8, 11, 45, 46, 47] ?_
    conv => whnf
    refine Sm.seqW ?_
    conv => whnf
    have e20 : IntKind.i64.wrap (20 + ((bs x).length : Int)) = ((20 + (bs x).length : Nat) : Int) := by rw [wi64 (by omega) (by omega)]; push_cast; rfl
    rw [e20]
    refine Sm.live [0, 6, 8, 11, 12, 45, 46, 47] ?_
    conv => whnf
    have henc : 20 + (bs x).length + (if 63 < (bs x).length then 1 else 0) = 19 + (Pk.encI ((bs x).length : Int)).length + (bs x).length := by
      split
      · rename_i h; rw [enc_mid h (by omega)]; omega
      · rename_i h; rw [enc_small (by omega)]; omega
    have hlay : ∀ q : Int, (layF ⟨q, x⟩ u).length = 19 + (Pk.encI ((bs x).length : Int)).length + (bs x).length := fun q => layF_len ⟨q, x⟩ u
    generalize hN : 19 + (Pk.encI ((bs x).length : Int)).length + (bs x).length = N at henc hlay
    have hNb : N ≤ 171 := by split at henc <;> omega
    refine Sm.seqC (fun e L' s' => e = .normal ∧ s' = s ∧ Sub [(0, .int .i64 (Z : Int)), (6, .pointer (some ⟨br, 0, none⟩)), (8, .int .i64 (i : Int)), (11, .string x), (12, .int .i64 (N : Int)), (45, .slice a TS.length cp), (46, .int .i64 (TS.length : Int)), (47, .int .i64 (i : Int))] L') ?_ ?_
    · conv => whnf
      refine Br.mk (fun hq => ?_) (fun hq => ?_)
      · have hq : 63 < (bs x).length := by have := of_decide_eq_true hq; omega
        conv => whnf
        rw [if_pos hq] at henc
        have e3 : IntKind.i64.wrap (((20 + (bs x).length : Nat) : Int) + 1) = (N : Int) := by rw [wi64 (by omega) (by omega)]; omega
        exact ⟨rfl, rfl, subK_ok ⟨rfl, rfl, rfl, rfl, congrArg (fun x => some (Value.int .i64 x)) e3, rfl, rfl, rfl, trivial⟩⟩
      · have hq : ¬ 63 < (bs x).length := by have := of_decide_eq_false hq; omega
        conv => whnf
        rw [if_neg hq] at henc
        have e3 : ((20 + (bs x).length : Nat) : Int) = (N : Int) := by omega
        exact ⟨rfl, rfl, subK_ok ⟨rfl, rfl, rfl, rfl, congrArg (fun x => some (Value.int .i64 x)) e3, rfl, rfl, rfl, trivial⟩⟩
    rintro e L' s' ⟨rfl, rfl, hsub⟩
    refine Sm.weak _ hsub ?_
    clear hsub
    refine Sm.seqW ?_
    conv => whnf
    refine (left_spec hp (ro := ⟨20, Z, u, L⟩) (v := .slice al L.length cl) (kr := kr) (br := br) (by repeat (first | exact Has.here | apply Has.there | (apply Has.swap; repeat (first | exact HasR.here | apply HasR.there)))) (by show Z ≤ 65536; omega) (by show u ≤ 65536; omega)).mono ?_
    rintro _ _ ⟨rfl, rfl⟩
    conv => whnf
    refine Sm.seqW ?_
    conv => whnf
    have ei : IntKind.i64.wrap ((i : Int) + 1) = ((i + 1 : Nat) : Int) := by rw [wi64 (by omega) (by omega)]; push_cast; rfl
    rw [ei]
    refine Sm.live [0, 6, 8, 11, 12, 13, 45, 46, 47] ?_
    conv => whnf
    refine Sm.seqW ?_
    conv => whnf
    refine hp.rAppend (ro := ⟨20, Z, u, L⟩) (r := ⟨((i + 1 : Nat) : Int), x⟩) (by repeat (first | exact Rm.here | apply Rm.there)) (by repeat (first | exact Rm.here | apply Rm.there)) (by repeat (first | exact Rm.here | apply Rm.there)) okR hlim (by show Z ≤ 8192; omega) ⟨by show -9223372036854775808 ≤ ((i + 1 : Nat) : Int) ∧ ((i + 1 : Nat) : Int) < 9223372036854775808; omega, by show (bs x).length ≤ 420; omega⟩ (by show lastF L < ((i + 1 : Nat) : Int); omega) rfl rfl ?_ ?_
    · intro hf v' κ' s hp
      have hf : (Z : Int) - u < N := by have := hlay ((i + 1 : Nat) : Int); have h2 : (Z : Int) - u < (layF ⟨((i + 1 : Nat) : Int), x⟩ u).length := hf; omega
      conv => whnf
      refine Sm.live [0, 6, 8, 12, 13, 14, 45, 46, 47] ?_
      conv => whnf
      refine Sm.ofW ?_
      conv => whnf
      have d1 : decide ((N : Int) > (Z : Int) - (u : Int)) = true := decide_eq_true (by omega)
      have d2 : decide ((N : Int) ≤ (Z : Int) - (u : Int)) = false := decide_eq_false (by omega)
      have d3 : ((Z : Int) - (u : Int) != (Z : Int) - (u : Int)) = false := by simp
      repeat (first | (refine Br.yes d1 ?_; conv => whnf) | (refine Br.no d2 ?_; conv => whnf) | (refine Br.no d3 ?_; conv => whnf) | (refine Br.no rfl ?_; conv => whnf) | (refine Br.yes rfl ?_; conv => whnf))
      refine (left_spec hp (ro := ⟨20, Z, u, L⟩) (v := v') (kr := kr) (br := br) (by repeat (first | exact Has.here | apply Has.there | (apply Has.swap; repeat (first | exact HasR.here | apply HasR.there)))) (by show Z ≤ 65536; omega) (by show u ≤ 65536; omega)).mono ?_
      rintro _ _ ⟨rfl, rfl⟩
      conv => whnf
      repeat (first | (refine Br.yes d1 ?_; conv => whnf) | (refine Br.no d2 ?_; conv => whnf) | (refine Br.no d3 ?_; conv => whnf) | (refine Br.no rfl ?_; conv => whnf) | (refine Br.yes rfl ?_; conv => whnf))
      refine Sm.ofW ?_
      conv => whnf
      have e7 : IntKind.i64.wrap ((i : Int) + 1) = ((i + 1 : Nat) : Int) := ei
      refine ⟨(i + 1, u, L, τ, κ', v'), by (show TS.length - (i + 1) < TS.length - i); omega, subK_ok (by refine ⟨rfl, rfl, rfl, rfl, rfl, congrArg (fun x => some (Value.int .i64 x)) e7, trivial⟩), hc, okR, hlim, by (show lastF L ≤ ((i + 1 : Nat) : Int)); omega, hp.pik (by repeat (first | exact Pik.nil | exact Pik.refl _ | exact Rm.here | apply Rm.there | apply Pik.cons | apply Pik.skip))⟩
    · intro hf τ' v' κ' s okR' hlim' hb' hp
      have hf : ¬ ((Z : Int) - u < N) := by have := hlay ((i + 1 : Nat) : Int); intro h; apply hf; show (Z : Int) - u < (layF ⟨((i + 1 : Nat) : Int), x⟩ u).length; omega
      have hl2 := hlay ((i + 1 : Nat) : Int)
      simp only [hl2] at okR' hp
      conv => whnf
      refine Sm.live [0, 6, 8, 12, 13, 14, 45, 46, 47] ?_
      conv => whnf
      refine Sm.ofW ?_
      conv => whnf
      have d1 : decide ((N : Int) > (Z : Int) - (u : Int)) = false := decide_eq_false (by omega)
      have d2 : decide ((N : Int) ≤ (Z : Int) - (u : Int)) = true := decide_eq_true (by omega)
      repeat (first | (refine Br.no d1 ?_; conv => whnf) | (refine Br.yes d2 ?_; conv => whnf) | (refine Br.no rfl ?_; conv => whnf) | (refine Br.yes rfl ?_; conv => whnf))
      refine (left_spec hp (ro := ⟨20, Z, u + N, L ++ [⟨((i + 1 : Nat) : Int), x⟩]⟩) (v := v') (kr := kr) (br := br) (by repeat (first | exact Has.here | apply Has.there | (apply Has.swap; repeat (first | exact HasR.here | apply HasR.there)))) (by show Z ≤ 65536; omega) (by show u + N ≤ 65536; omega)).mono ?_
      rintro _ _ ⟨rfl, rfl⟩
      have d3 : ((Z : Int) - ((u + N : Nat) : Int) != IntKind.i64.wrap ((Z : Int) - (u : Int) - (N : Int))) = false := by
        rw [wi64 (by omega) (by omega)]; simp; omega
      conv => whnf
      repeat (first | (refine Br.no d1 ?_; conv => whnf) | (refine Br.yes d2 ?_; conv => whnf) | (refine Br.no d3 ?_; conv => whnf) | (refine Br.no rfl ?_; conv => whnf) | (refine Br.yes rfl ?_; conv => whnf))
      refine Sm.ofW ?_
      conv => whnf
      repeat (first | (refine Br.no d1 ?_; conv => whnf) | (refine Br.yes d2 ?_; conv => whnf) | (refine Br.no d3 ?_; conv => whnf) | (refine Br.no rfl ?_; conv => whnf) | (refine Br.yes rfl ?_; conv => whnf))
      have e7 : IntKind.i64.wrap ((i : Int) + 1) = ((i + 1 : Nat) : Int) := ei
      refine ⟨(i + 1, u + N, L ++ [⟨((i + 1 : Nat) : Int), x⟩], τ', κ', v'), by (show TS.length - (i + 1) < TS.length - i); omega, subK_ok (by refine ⟨rfl, rfl, rfl, rfl, rfl, congrArg (fun x => some (Value.int .i64 x)) e7, trivial⟩), hc, okR', hlim', by (show lastF (L ++ [_]) ≤ ((i + 1 : Nat) : Int)); rw [lastF_snoc]; exact Int.le_refl _, hp.pik (by repeat (first | exact Pik.nil | exact Pik.refl _ | exact Rm.here | apply Rm.there | apply Pik.cons | apply Pik.skip))⟩
  · conv => whnf
    refine Sm.ofW ?_
    conv => whnf
    refine hp.callO (records_spec hp (ro := ⟨20, Z, u, L⟩) (κ := κl) (v := .slice al L.length cl) (kr := kr) (br := br) (by repeat (first | exact Has.here | apply Has.there | (apply Has.swap; repeat (first | exact HasR.here | apply HasR.there)))) (hp.slF (by repeat (first | exact Rm.here | apply Rm.there))) (by show L.length ≤ 100000; omega)) ?_
    clear hp
    intro w κ' s hp _
    obtain ⟨aw, cw, rfl⟩ := (hp.slF (κ := κ') .here).shape
    conv => whnf
    refine Om.of _ (quo_nat (n := Z) (m := 20) (by omega) (by omega)) ?_
    conv => whnf
    refine ⟨congrArg Value.bool (decide_eq_true ?_)⟩
    show ((L.length : Nat) : Int) ≤ ((Z / 20 : Nat) : Int)
    omega
end Go.Ev
