/- Rolls: a record as bytes; are two runs of bytes the same? No condition. -/
import Derived.Test.YtfbdnmcncgbifaaR2
noncomputable section
namespace Go.Ev
open Go.Proofs
set_option linter.unusedVariables false
set_option maxRecDepth 100000

/-- A record. -/
structure Rr where
  seq : Int
  body : ByteArray
def Rr.cells (r : Rr) : List Value := [.int .i64 r.seq, .string r.body]
def Rr.val (r : Rr) : Value := .agg #[.int .i64 r.seq, .string r.body]
/-- What is marked of a record. -/
def layB (r : Rr) : List UInt8 := bytes8 (BitVec.ofInt 64 r.seq) ++ Pk.encI (bs r.body).length ++ bs r.body ++ [255]
/-- A record's bytes, where it begins in its region. -/
def layF (r : Rr) (at_ : Int) : List UInt8 := [UInt8.ofNat ((128 + (layB r).length / 128) % 256), UInt8.ofNat ((128 + (layB r).length % 128) % 256)] ++ bytes8 (Mk.sum (BitVec.ofInt 64 at_) (layB r)) ++ layB r
theorem u64_of (n : Int) : IntKind.u64.wrap n = ((BitVec.ofInt 64 n).toNat : Int) := wrap_bv n
theorem quo_nat {P : Program} {t : TypeId} {cst : Bool} {n m : Nat} (hm : 0 < m) (hn : n < 9223372036854775808) : evBin P .quo t cst (.int .i64 (n : Int)) (.int .i64 (m : Int)) = some (.int .i64 ((n / m : Nat) : Int)) := by
  show (match decide ((m : Int) = 0) with
    | true => none
    | false => some (Value.int .i64 (IntKind.i64.wrap ((n : Int).tdiv m)))) = _
  rw [decide_eq_false (by omega)]
  have : (n : Int).tdiv m = ((n / m : Nat) : Int) := by rw [Int.tdiv_eq_ediv_of_nonneg (by omega)]; push_cast; rfl
  have h2 : n / m ≤ n := Nat.div_le_self _ _
  rw [this]
  generalize n / m = q at h2
  simp only
  rw [wi64 (by omega) (by omega)]
theorem rem_nat {P : Program} {t : TypeId} {cst : Bool} {n m : Nat} (hm : 0 < m) : evBin P .rem t cst (.int .i64 (n : Int)) (.int .i64 (m : Int)) = some (.int .i64 ((n % m : Nat) : Int)) := by
  show (match decide ((m : Int) = 0) with
    | true => none
    | false => some (Value.int .i64 ((n : Int).tmod m))) = _
  rw [decide_eq_false (by omega)]
  have : (n : Int).tmod m = ((n % m : Nat) : Int) := by rw [Int.tmod_eq_emod_of_nonneg (by omega)]; push_cast; rfl
  rw [this]
theorem laid_spec {z : St} (wf : WF z) (r : Rr) (hb : (bs r.body).length ≤ 100000000) (at_ : Int) :
    Cw Try.prog 32 [r.val, .int .i64 at_] z fun v s' => K0 z s' ∧ Ob z.next s' v (layF r at_) := by
  have hp : Hp (fun _ => False) z [] [] z := Hp.start _ wf _ (by simp)
  have hel := Pk.encI_len (n := ((bs r.body).length : Int)) (by unfold Pk.inR; omega)
  have hlB : (layB r).length = 9 + (Pk.encI ((bs r.body).length : Int)).length + (bs r.body).length := by
    unfold layB; simp [bytes8_len]; omega
  refine Cw.enterS Try.func32 rfl rfl ?_
  refine Sm.seqW ?_
  conv => whnf
  refine hp.var (cs := r.cells) (e := 2) rfl rfl ?_
  clear hp
  intro b1 s1 hp _
  conv => whnf
  refine Sm.seqW ?_
  conv => whnf
  refine ⟨[0, 1, 3, 7, 0, 16, 63, 127], by decide +kernel, by decide +kernel, ?_⟩
  conv => whnf
  (refine hp.load (by repeat (first | exact Has.here | apply Has.there | (apply Has.swap; repeat (first | exact HasR.here | apply HasR.there)))) (by rfl) rfl rfl rfl ?_; conv => whnf)
  rw [u64_of]
  refine hp.rst.callO (mbytes_spec hp.rst.wf (BitVec.ofInt 64 r.seq)) ?_
  intro v2 κ2 s2 h2 k2
  conv => whnf
  refine hp.dkN h2 k2 ?_
  clear hp h2 k2
  intro s hp
  conv => whnf
  (refine hp.load (by repeat (first | exact Has.here | apply Has.there | (apply Has.swap; repeat (first | exact HasR.here | apply HasR.there)))) (by rfl) rfl rfl rfl ?_; conv => whnf)
  refine hp.rst.callO (text_spec hp.rst.wf (Sb.of (hp.rst.slF .here)) (by rw [bytes8_len]; omega) r.body (by rw [bytes8_len]; omega)) ?_
  intro v3 κ3 s3 h3 k3
  conv => whnf
  refine hp.dkN h3 k3 ?_
  clear hp h3 k3
  intro s hp
  conv => whnf
  refine Sm.live [1, 5] ?_
  conv => whnf
  refine Sm.seqW ?_
  conv => whnf
  refine hp.one B26 rfl ?_
  clear hp
  intro v4 b4 s4 hp _
  conv => whnf
  have x4 : Sl s4 (some b4) v4 1 1 [.int .u8 255] := Own.sl (hp.okF _ List.mem_cons_self)
  refine hp.app B26 Try.underlying32 rfl (by repeat (first | exact Rm.here | apply Rm.there)) (elems_sl x4) rfl rfl (by simp [bytes8_len]; omega) ?_
  clear hp x4
  intro v5 κ5 s5 hp
  rw [show (.int .u8 255 : Value) = .int .u8 ((255 : Nat) : Int) from rfl, byteVals_snoc _ _ (by decide)] at hp
  have hB : bytes8 (BitVec.ofInt 64 r.seq) ++ Pk.encI ((bs r.body).length : Int) ++ bs r.body ++ [UInt8.ofNat 255] = layB r := rfl
  rw [hB] at hp
  have hp : Hp (fun _ => False) z [] [onA κ5 v5 1 (layB r).length (byteVals (layB r))] s5 := by
    have : (bytes8 (BitVec.ofInt 64 r.seq) ++ Pk.encI ((bs r.body).length : Int) ++ bs r.body).length + 1 = (layB r).length := by rw [← hB]; simp; omega
    rw [this] at hp
    exact hp.pik (by repeat (first | exact Pik.nil | exact Pik.refl _ | exact Rm.here | apply Rm.there | apply Pik.cons | apply Pik.skip))
  conv => whnf
  refine Sm.live [1, 5] ?_
  conv => whnf
  refine Sm.seqW ?_
  conv => whnf
  obtain ⟨a5, c5, rfl⟩ := (hp.slF .here).shape
  rw [u64_of]
  refine (sum_spec s5 (Sb.of (hp.slF .here)) (by omega) (BitVec.ofInt 64 at_)).mono ?_
  rintro _ _ ⟨rfl, rfl⟩
  conv => whnf
  refine hp.callO (mbytes_spec hp.wf (Mk.sum (BitVec.ofInt 64 at_) (layB r))) ?_
  clear hp
  intro v6 κ6 s6 hp _
  conv => whnf
  refine Sm.live [5, 6] ?_
  conv => whnf
  refine Sm.seqW ?_
  conv => whnf
  generalize hn : (layB r).length = n at hlB hp ⊢
  refine Om.of _ (quo_nat (n := n) (m := 128) (by omega) (by omega)) ?_
  conv => whnf
  refine Om.of _ (rem_nat (n := n) (m := 128) (by omega)) ?_
  conv => whnf
  have e1 : IntKind.u8.wrap (IntKind.i64.wrap (128 + ((n / 128 : Nat) : Int))) = (((128 + n / 128) % 256 : Nat) : Int) := by
    rw [wi64 (by omega) (by omega), show (128 + ((n / 128 : Nat) : Int)) = ((128 + n / 128 : Nat) : Int) by push_cast; rfl, wrap_u8]
  have e2 : IntKind.u8.wrap (IntKind.i64.wrap (128 + ((n % 128 : Nat) : Int))) = (((128 + n % 128) % 256 : Nat) : Int) := by
    rw [wi64 (by omega) (by omega), show (128 + ((n % 128 : Nat) : Int)) = ((128 + n % 128 : Nat) : Int) by push_cast; rfl, wrap_u8]
  rw [e1, e2]
  refine hp.lit (cs := byteVals [UInt8.ofNat ((128 + n / 128) % 256), UInt8.ofNat ((128 + n % 128) % 256)]) (e := 1) (by
    have g1 : (UInt8.ofNat ((128 + n / 128) % 256)).toNat = (128 + n / 128) % 256 := toNat_ofNat (by omega)
    have g2 : (UInt8.ofNat ((128 + n % 128) % 256)).toNat = (128 + n % 128) % 256 := toNat_ofNat (by omega)
    rw [show byteVals [UInt8.ofNat ((128 + n / 128) % 256), UInt8.ofNat ((128 + n % 128) % 256)] = [.int .u8 ((UInt8.ofNat ((128 + n / 128) % 256)).toNat : Int), .int .u8 ((UInt8.ofNat ((128 + n % 128) % 256)).toNat : Int)] from rfl, g1, g2]
    rfl) ?_
  clear hp
  intro b7 s7 hp _
  conv => whnf
  refine hp.lit (cs := [.slice (some ⟨b7, 0, none⟩) 2 2, v6, .slice a5 n c5]) (e := 1) (by
    obtain ⟨a6, c6, h6⟩ := (hp.slF (κ := κ6) (v := v6) (by repeat (first | exact Rm.here | apply Rm.there))).shape
    rw [h6]; rfl) ?_
  clear hp
  intro b8 s8 hp _
  conv => whnf
  have q1 := hp.blkSl (n := 2) (m := (by repeat (first | exact Has.here | apply Has.there | (apply Has.swap; repeat (first | exact HasR.here | apply HasR.there))) : Has (blkA b7 b7 (byteVals [UInt8.ofNat ((128 + n / 128) % 256), UInt8.ofNat ((128 + n % 128) % 256)]) 1) _ _)) rfl
  have q2 : Sb s8 κ6 v6 (bytes8 (Mk.sum (BitVec.ofInt 64 at_) (layB r))) := Sb.of (hp.slF (by repeat (first | exact Rm.here | apply Rm.there)))
  have q3 : Sb s8 κ5 (.slice a5 n c5) (layB r) := by
    have := hp.slF (κ := κ5) (v := .slice a5 n c5) (n := n) (cs := byteVals (layB r)) (by repeat (first | exact Rm.here | apply Rm.there))
    exact Sb.of this
  have q4 := hp.blkSl (n := 3) (m := (by repeat (first | exact Has.here | apply Has.there | (apply Has.swap; repeat (first | exact HasR.here | apply HasR.there))) : Has (blkA b8 b8 [.slice (some ⟨b7, 0, none⟩) 2 2, v6, .slice a5 n c5] 1) _ _)) rfl
  have hflat : (List.flatMap Pt.b [⟨some b7, .slice (some ⟨b7, 0, none⟩) 2 2, [UInt8.ofNat ((128 + n / 128) % 256), UInt8.ofNat ((128 + n % 128) % 256)]⟩, ⟨κ6, v6, bytes8 (Mk.sum (BitVec.ofInt 64 at_) (layB r))⟩, ⟨κ5, .slice a5 n c5, layB r⟩]) = layF r at_ := by
    unfold layF; simp [hn]
  have hlen : (layF r at_).length = n + 10 := by unfold layF; simp [hn, bytes8_len]; omega
  have hcc := concat_spec hp.wf [⟨some b7, .slice (some ⟨b7, 0, none⟩) 2 2, [UInt8.ofNat ((128 + n / 128) % 256), UInt8.ofNat ((128 + n % 128) % 256)]⟩, ⟨κ6, v6, bytes8 (Mk.sum (BitVec.ofInt 64 at_) (layB r))⟩, ⟨κ5, .slice a5 n c5, layB r⟩] q4 (by
    intro x hx
    simp only [List.mem_cons, List.not_mem_nil, or_false] at hx
    rcases hx with rfl | rfl | rfl
    · exact q1
    · exact q2
    · exact q3) (by rw [hflat]; omega) (by rw [hflat]; omega) (by simp)
  rw [hflat] at hcc
  refine hp.callO hcc ?_
  clear hp q1 q2 q3 q4 hcc
  intro v9 κ9 s9 hp _
  conv => whnf
  refine Sm.ofW ?_
  conv => whnf
  exact ⟨hp.fr, hp.out .here⟩
end Go.Ev
