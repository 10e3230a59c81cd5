/- Several texts in one: what the law's text leans on, one behind the other. No condition but those that each theorem names. -/
import Derived.Test.YtknhjdkjjfijlaaGreatDoorGCmdNumbers2
import Derived.Test.YtknhjdkjjfijlaaGreatDoorKCmdNumbersF1
import Derived.Stop.LaidErr
import Derived.LaidSub
noncomputable section
namespace Go.Ev
open Go.Proofs
set_option linter.unusedVariables false
set_option linter.unusedSectionVars false
set_option maxRecDepth 100000
/- entry.Print and Turned walked. No condition. -/
section
variable [Lk]
theorem sv_add {P : Program} {t : TypeId} {c : Bool} (a b : List UInt8) (h : a.length + b.length ≤ 281474976710656) : evBin P .add t c (sv a) (sv b) = some (sv (a ++ b)) := str_add _ _ h
structure MemLn (x : Ln) : Prop where
 acct : x.acct < 100
 wth : x.wth < 100
 amt : x.amt.c < w128
theorem print_le (d : Dc) : (printF d).length ≤ 32 := by
 cases h : d.right with
 | true => exact print_len h
 | false => rw [print_nil.2 h]; decide
theorem itoa_le (k : Nat) : (itoaF k).length ≤ 2 := by rw [itoaF_len]; split <;> omega
theorem line_le (x : Ln) : (lineT x).length ≤ 38 := by
 have h1 := itoa_le x.acct.toNat
 have h2 := itoa_le x.wth.toNat
 have h3 := print_le x.amt
 unfold lineT
 simp only [List.length_append, List.length_cons]
 split <;> simp <;> omega
theorem lines_le : ∀ ls : List Ln, (joinL 44 (ls.map lineT)).length ≤ 40 * ls.length
 | [] => by simp [joinL]
 | x :: r => by
   have h1 := line_le x
   have : ∀ r : List Ln, ((r.map lineT).flatMap fun w => (44 : UInt8) :: w).length ≤ 39 * r.length := by
    intro r
    induction r with
    | nil => simp
    | cons y r ih =>
      have := line_le y
      simp only [List.map_cons, List.flatMap_cons, List.length_append, List.length_cons]; omega
   have h2 := this r
   show (lineT x ++ ((r.map lineT).flatMap fun w => (44 : UInt8) :: w)).length ≤ _
   simp only [List.length_append, List.length_cons]; omega
theorem eprint_spec {z : St} (wf : WF z) {κ : Option Nat} {v : Value} {ls : List Ln} (hv : Sln z κ v ls) (hok : ∀ x ∈ ls, MemLn x) (hl : ls.length ≤ 1000) :
  Cw Tryz.prog 22 [v] z fun r s' => K0 z s' ∧ r = sv (printL ls) := by
 obtain ⟨a, cp, rfl⟩ := hv.shape
 have hp : Hp (fun _ => False) z [slA κ (.slice a ls.length cp) 6 ls.length (lnC ls)] [] z := Hp.start _ wf _ (by simp; exact hv)
 refine Cw.enterS Tryz.func22 rfl rfl ?_
 refine Sm.seqW ?_
 conv => whnf
 refine Sm.live [0] ?_
 conv => whnf
 refine Sm.seqW ?_
 conv => whnf
 refine Sm.live [0, 3] ?_
 conv => whnf
 refine Sm.seq ?_
 refine Sm.seqW ?_
 conv => whnf
 refine Sm.live [3, 8, 9, 10] ?_
 conv => whnf
 refine Sm.block ?_
 refine Sm.loop ?_
 refine Lp.ofS (α := Nat × Option Nat × Value) (fun x => [(3, x.2.2), (8, .slice a ls.length cp), (9, .int .i64 ((ls.length : Nat) : Int)), (10, .int .i64 (x.1 : Int))])
  (fun x s' => x.1 ≤ ls.length ∧ (ls.take x.1).any badLn = false ∧ Hp (fun _ => False) z [slA κ (.slice a ls.length cp) 6 ls.length (lnC ls)] [onA x.2.1 x.2.2 1 x.1 ((ls.take x.1).map fun y => sv (lineT y))] s') (fun x => ls.length - x.1) ?_ (0, none, .slice none 0 0) (subK_ok (by refine ⟨rfl, rfl, rfl, rfl, trivial⟩)) ⟨Nat.zero_le _, rfl, (hp.nilA 1).pik (by repeat (first | exact Pik.nil | exact Pik.refl _ | exact Rm.here | apply Rm.there | apply Pik.cons | apply Pik.skip))⟩
 clear hp
 rintro ⟨i, κo, vo⟩ s ⟨hi, hno, hp⟩
 simp only at hi hno hp
 refine Sm.seqW ?_
 conv => whnf
 refine Sm.live [3, 8, 9, 10, 11] ?_
 conv => whnf
 refine Sm.seq ?_
 refine Sm.ofW ?_
 conv => whnf
 refine Br.mk (fun hc => ?_) (fun hc => ?_)
 · have hc : i < ls.length := by have : (i : Int) < ((ls.length : Nat) : Int) := of_decide_eq_true hc; omega
   obtain ⟨e, g1, g2⟩ := index_ln (hp.slR (κ := κ) (v := .slice a ls.length cp) .here) .i64 hc
   have htk : ls.take (i + 1) = ls.take i ++ [ls[i]] := List.take_succ_eq_append_getElem hc
   have hmem : ls[i] ∈ ls := List.getElem_mem hc
   have hm := hok _ hmem
   generalize hw : ls[i] = x at *
   conv => whnf
   refine Sm.seq ?_
   refine Sm.block ?_
   refine Sm.seqW ?_
   conv => whnf
   refine Om.of _ (g1) ?_
   conv => whnf
   refine Om.of _ (g2) ?_
   conv => whnf
   refine hp.alloc (cs := Ln.zero.cells) (e := 6) rfl rfl rfl rfl rfl ?_
   clear hp
   intro p5 s hp _
   conv => whnf
   refine hp.storeW (vs := x.cells) rfl .d csx rfl rfl rfl ?_
   clear hp
   intro s hp _
   conv => whnf
   refine Sm.live [3, 5, 8, 9, 10] ?_
   conv => whnf
   refine Sm.seqW ?_
   conv => whnf
   refine hp.loadA (l := x.amt.cells) .d rfl (by rfl) rfl rfl ?_
   conv => whnf
   refine hp.call (print_spec hp.wf x.amt hm.amt) ?_
   clear hp
   rintro _ s rfl hp _
   conv => whnf
   have hpl := print_le x.amt
   refine Sm.live [3, 5, 6, 8, 9, 10] ?_
   conv => whnf
   refine Sm.seq ?_
   refine Sm.seqC (fun e' L' s' => e' = .normal ∧ s' = s ∧ Sub [(3, vo), (5, .pointer (some ⟨p5, 0, none⟩)), (6, sv (printF x.amt)), (8, .slice a ls.length cp), (9, .int .i64 ((ls.length : Nat) : Int)), (10, .int .i64 (i : Int)), (28, .bool (badLn x))] L') ?_ ?_
   · conv => whnf
     unfold badLn
     refine hp.load (v := .int .i64 x.acct) .d (by rfl) rfl rfl rfl ?_
     conv => whnf
     by_cases h1 : x.acct < 0
     · have q1 : decide (x.acct < 0) = true := decide_eq_true h1
       repeat (first | (refine Br.yes q1 ?_; conv => whnf) | ((first | refine Br.y1 ?_ | refine Br.n1 ?_); conv => whnf))
       exact ⟨rfl, rfl, subK_ok ⟨rfl, rfl, rfl, rfl, rfl, rfl, congrArg (fun x => some (Value.bool x)) (by rw [q1]; rfl), trivial⟩⟩
     have q1 : decide (x.acct < 0) = false := decide_eq_false h1
     repeat (first | (refine Br.no q1 ?_; conv => whnf) | ((first | refine Br.y1 ?_ | refine Br.n1 ?_); conv => whnf))
     refine hp.load (v := .int .i64 x.wth) .d (by rfl) rfl rfl rfl ?_
     conv => whnf
     repeat (first | (refine Br.no q1 ?_; conv => whnf) | ((first | refine Br.y1 ?_ | refine Br.n1 ?_); conv => whnf))
     by_cases h2 : x.wth < -1
     · have q2 : decide (x.wth < -1) = true := decide_eq_true h2
       repeat (first | (refine Br.no q1 ?_; conv => whnf) | (refine Br.yes q2 ?_; conv => whnf) | ((first | refine Br.y1 ?_ | refine Br.n1 ?_); conv => whnf))
       exact ⟨rfl, rfl, subK_ok ⟨rfl, rfl, rfl, rfl, rfl, rfl, congrArg (fun x => some (Value.bool x)) (by rw [q1, q2]; rfl), trivial⟩⟩
     have q2 : decide (x.wth < -1) = false := decide_eq_false h2
     repeat (first | (refine Br.no q1 ?_; conv => whnf) | (refine Br.no q2 ?_; conv => whnf) | ((first | refine Br.y1 ?_ | refine Br.n1 ?_); conv => whnf))
     refine Om.of _ (sv_eq (printF x.amt) []) ?_
     conv => whnf
     repeat (first | (refine Br.no q1 ?_; conv => whnf) | (refine Br.no q2 ?_; conv => whnf) | ((first | refine Br.y1 ?_ | refine Br.n1 ?_); conv => whnf))
     exact ⟨rfl, rfl, subK_ok ⟨rfl, rfl, rfl, rfl, rfl, rfl, congrArg (fun x => some (Value.bool x)) (by rw [q1, q2]; rfl), trivial⟩⟩
   rintro e L' s' ⟨rfl, rfl, hs⟩
   refine Sm.weak _ hs ?_
   clear hs
   refine Sm.ofW ?_
   conv => whnf
   cases hbad : badLn x with
   | true =>
     repeat (first | (refine Br.yes hbad ?_; conv => whnf) | ((first | refine Br.y1 ?_ | refine Br.n1 ?_); conv => whnf))
     refine ⟨hp.fr, ?_⟩
     have : ls.any badLn = true := List.any_eq_true.2 ⟨x, hmem, hbad⟩
     unfold printL
     rw [if_pos this]; rfl
   | false =>
     repeat (first | (refine Br.no hbad ?_; conv => whnf) | ((first | refine Br.y1 ?_ | refine Br.n1 ?_); conv => whnf))
     have hb2 := hbad
     unfold badLn at hb2
     simp only [Bool.or_eq_false_iff, decide_eq_false_iff_not] at hb2
     obtain ⟨h1, h2, h3⟩ := hb2
     obtain ⟨k, hk⟩ : ∃ k : Nat, x.acct = k := ⟨x.acct.toNat, by omega⟩
     have hk1 : k < 100 := by have := hm.acct; omega
     have hil := itoa_le k
     refine Sm.seqW ?_
     conv => whnf
     refine hp.load (v := .int .i64 x.acct) .d (by rfl) rfl rfl rfl ?_
     conv => whnf
     rw [hk]
     refine (itoa2_spec _ hk1).mono ?_
     rintro _ s1 ⟨h1, rfl⟩
     obtain rfl := h1.symm
     conv => whnf
     refine Om.of _ (sv_add (itoaF k) [58] (by simp; omega)) ?_
     conv => whnf
     refine Om.of _ (sv_add (itoaF k ++ [58]) (printF x.amt) (by simp; omega)) ?_
     conv => whnf
     refine Sm.live [3, 5, 7, 8, 9, 10] ?_
     conv => whnf
     refine Sm.seqC (fun e' L' s'' => e' = .normal ∧ s'' = s' ∧ Sub [(3, vo), (7, sv (lineT x)), (8, .slice a ls.length cp), (9, .int .i64 ((ls.length : Nat) : Int)), (10, .int .i64 (i : Int))] L') ?_ ?_
     · conv => whnf
       refine hp.load (v := .int .i64 x.wth) .d (by rfl) rfl rfl rfl ?_
       conv => whnf
       by_cases hw0 : 0 ≤ x.wth
       · have q1 : decide (x.wth ≥ 0) = true := decide_eq_true hw0
         obtain ⟨j, hj⟩ : ∃ j : Nat, x.wth = j := ⟨x.wth.toNat, by omega⟩
         have hj1 : j < 100 := by have := hm.wth; omega
         have hjl := itoa_le j
         repeat (first | (refine Br.yes q1 ?_; conv => whnf) | ((first | refine Br.y1 ?_ | refine Br.n1 ?_); conv => whnf))
         refine hp.load (v := .int .i64 x.wth) .d (by rfl) rfl rfl rfl ?_
         conv => whnf
         rw [hj]
         refine (itoa2_spec _ hj1).mono ?_
         rintro _ s1 ⟨h1, rfl⟩
         obtain rfl := h1.symm
         conv => whnf
         refine Om.of _ (sv_add [64] (itoaF j) (by simp; omega)) ?_
         conv => whnf
         refine Om.of _ (sv_add (itoaF k ++ [58] ++ printF x.amt) ([64] ++ itoaF j) (by simp; omega)) ?_
         conv => whnf
         exact ⟨rfl, rfl, subK_ok ⟨rfl, congrArg (fun x => some (sv x)) (by unfold lineT; rw [if_pos hw0, hk, hj]; simp), rfl, rfl, rfl, trivial⟩⟩
       · have q1 : decide (x.wth ≥ 0) = false := decide_eq_false hw0
         repeat (first | (refine Br.no q1 ?_; conv => whnf) | ((first | refine Br.y1 ?_ | refine Br.n1 ?_); conv => whnf))
         exact ⟨rfl, rfl, subK_ok ⟨rfl, congrArg (fun x => some (sv x)) (by unfold lineT; rw [if_neg hw0, hk]; simp), rfl, rfl, rfl, trivial⟩⟩
     rintro e L' s' ⟨rfl, rfl, hs⟩
     refine Sm.weak _ hs ?_
     clear hs
     refine Sm.ofW ?_
     conv => whnf
     refine hp.lit (cs := [sv (lineT x)]) (e := 1) (by rfl) ?_
     clear hp
     intro b4 s4 hp _
     conv => whnf
     have x4 := hp.blkSl (n := 1) (C := [sv (lineT x)]) (k := b4) (b := b4) (e := 1) .d rfl
     refine hp.app SG Tryz.underlying95 rfl (κ := κo) (v := vo) .d (elems_sl x4) rfl rfl (by omega) ?_
     clear hp x4
     intro v5 κ5 s hp
     have e1 : ((ls.take i).map fun y => sv (lineT y)) ++ [sv (lineT x)] = (ls.take (i + 1)).map fun y => sv (lineT y) := by
      rw [htk, List.map_append]; rfl
     rw [e1] at hp
     conv => whnf
     refine Sm.ofW ?_
     conv => whnf
     exact ⟨(i + 1, κ5, v5), by (show ls.length - (i + 1) < ls.length - i); omega, subK_ok (by refine ⟨rfl, rfl, rfl, congrArg (fun x => some (Value.int .i64 x)) (show IntKind.i64.wrap ((i : Int) + 1) = ((i + 1 : Nat) : Int) by rw [wi64 (by omega) (by omega)]; omega), trivial⟩), by (show i + 1 ≤ ls.length); omega, by (show (ls.take (i + 1)).any badLn = false); rw [htk, List.any_append, hno]; simp [hbad], hp.pik (by repeat (first | exact Pik.nil | exact Pik.refl _ | exact Rm.here | apply Rm.there | apply Pik.cons | apply Pik.skip))⟩
 · have hc : i = ls.length := by have : ¬ (i : Int) < ((ls.length : Nat) : Int) := of_decide_eq_false hc; omega
   subst hc
   rw [List.take_length] at hno hp
   have hjl := lines_le ls
   conv => whnf
   refine Sm.seqW ?_
   conv => whnf
   have hso : Sl s κo vo 1 (ls.map lineT).length ((ls.map lineT).map sv) := by
    rw [List.length_map, List.map_map]
    exact hp.slF .d
   refine hp.call (sjoin_spec hp.wf hso 44 (by omega)) ?_
   clear hp
   rintro _ s rfl hp _
   conv => whnf
   refine Sm.live [2] ?_
   conv => whnf
   refine Sm.ofW ?_
   conv => whnf
   refine ⟨hp.fr, ?_⟩
   unfold printL
   rw [if_neg (by rw [hno]; decide)]; rfl
end

/- entry.Right walked. No condition. -/
section
variable [Lk]
end

/- Raw numbers as lines, walked. No condition. -/
section
variable [Lk]
theorem ofD_mk2 {x sc : Int} (h1 : 0 ≤ sc) (h2 : sc ≤ 9) : ofD x sc = mkD x sc := by
 unfold ofD mkD
 have : max 0 (min sc 9) = sc := by omega
 rw [this]
end

/- The document's Digits, Small, Needless and Cut walked. No condition. -/
section
variable [Lk]
def dcF : Nat → Nat → List UInt8
 | 0, n => [dgt (n % 10)]
 | f + 1, n => if n < 10 then [dgt n] else dcF f (n / 10) ++ [dgt (n % 10)]
theorem dgt_cv : ∀ n : Nat, n < 10 → IntKind.u8.wrap (IntKind.i64.wrap (48 + (n : Int))) = (((dgt n).toNat : Nat) : Int) := by decide +kernel
theorem dec_itoa : ∀ n, n < 100 → ∀ f, 0 < f → dcF f n = itoaF n := by
 intro n hn f hf
 obtain ⟨g, rfl⟩ : ∃ g, f = g + 1 := ⟨f - 1, by omega⟩
 unfold dcF itoaF
 by_cases h : n < 10
 · rw [if_pos h, if_pos h]
 · rw [if_neg h, if_neg h]
   have h2 : dcF g (n / 10) = [dgt (n / 10)] := by
    cases g with
    | zero => unfold dcF; rw [Nat.mod_eq_of_lt (by omega)]
    | succ g => unfold dcF; rw [if_pos (by omega)]
   rw [h2]; rfl
theorem dcF_len : ∀ f n, (dcF f n).length ≤ f + 1
 | 0, n => by simp [dcF]
 | f + 1, n => by
   unfold dcF
   split
   · simp
   · have := dcF_len f (n / 10); simp; omega
theorem rdig_step (f n : Nat) (hn : n < 10 ^ (f + 1)) (hf : f ≤ 17) (ih : ∀ g, f = g + 1 → ∀ m : Nat, m < 10 ^ (g + 1) → ∀ z : St, WF z → Cw Tryz.prog 42 [.int .i64 (m : Int)] z fun r s' => K0 z s' ∧ r = sv (dcF g m)) {z : St} (wf : WF z) :
  Cw Tryz.prog 42 [.int .i64 (n : Int)] z fun r s' => K0 z s' ∧ r = sv (dcF f n) := by
  have hp10 : (10 : Nat) ^ (f + 1) ≤ 10 ^ 18 := Nat.pow_le_pow_right (by decide) (by omega)
  have hn18 : n < 10 ^ 18 := Nat.lt_of_lt_of_le hn hp10
  have hp : Hp (fun _ => False) z [] [] z := Hp.start _ wf _ (by simp)
  refine Cw.enterS Tryz.func42 rfl rfl ?_
  refine Sm.seqW ?_
  conv => whnf
  refine Sm.live [0] ?_
  conv => whnf
  refine Sm.seq ?_
  refine Sm.seqW ?_
  conv => whnf
  refine Sm.ofW ?_
  conv => whnf
  refine Br.no (decide_eq_false (by omega)) ?_
  conv => whnf
  refine Sm.seq ?_
  refine Sm.seqW ?_
  conv => whnf
  refine Sm.ofW ?_
  conv => whnf
  by_cases h : n < 10
  · refine Br.yes (decide_eq_true (by omega)) ?_
    conv => whnf
    rw [dgt_cv n h]
    refine hp.lit (cs := byteVals [dgt n]) (e := 1) (by rfl) ?_
    clear hp
    intro b s hp _
    conv => whnf
    refine Om.of _ (string_sl Tryz.underlying59 Tryz.underlying9 Tryz.underlying5 (l := [dgt n]) (hp.blkSl (k := b) (b := b) (n := 1) .d rfl)) ?_
    conv => whnf
    refine ⟨hp.fr, ?_⟩
    cases f with
    | zero => unfold dcF; rw [Nat.mod_eq_of_lt h]; rfl
    | succ f => unfold dcF; rw [if_pos h]; rfl
  · obtain ⟨g, rfl⟩ : ∃ g, f = g + 1 := by
     cases f with
     | zero => exact absurd hn (by simpa using h)
     | succ f => exact ⟨f, rfl⟩
    have hlen := dcF_len g (n / 10)
    have hm10 : n % 10 < 10 := Nat.mod_lt _ (by decide)
    have hm : n / 10 < 10 ^ (g + 1) := by
     have e : (10 : Nat) ^ (g + 1 + 1) = 10 ^ (g + 1) * 10 := Nat.pow_succ ..
     rw [e] at hn
     exact Nat.div_lt_of_lt_mul (by rw [Nat.mul_comm]; exact hn)
    refine Br.no (decide_eq_false (by omega)) ?_
    conv => whnf
    refine Sm.seqW ?_
    conv => whnf
    refine ⟨[0, 1, 3, 0, 8, 24, 56, 120, 248, 511, 1023], by decide +kernel, by decide +kernel, ?_⟩
    conv => whnf
    refine Om.of _ (quo_nat (m := 10) (by decide) (show n < 9223372036854775808 by omega)) ?_
    conv => whnf
    refine hp.rst.call (ih g rfl (n / 10) hm _ hp.rst.wf) ?_
    rintro _ s1 rfl h1 k1
    conv => whnf
    refine hp.dkN h1 k1 ?_
    clear hp h1 k1
    intro s hp
    conv => whnf
    refine Om.of _ (rem_nat (n := n) (m := 10) (by decide)) ?_
    conv => whnf
    rw [dgt_cv (n % 10) hm10]
    refine hp.rst.lit (cs := byteVals [dgt (n % 10)]) (e := 1) (by rfl) ?_
    intro b s1 h1 k1
    conv => whnf
    refine hp.dkN h1 k1 ?_
    clear hp h1 k1
    intro s hp
    conv => whnf
    refine Om.of _ (string_sl Tryz.underlying59 Tryz.underlying9 Tryz.underlying5 (l := [dgt (n % 10)]) (hp.rst.blkSl (k := b) (b := b) (n := 1) .d rfl)) ?_
    conv => whnf
    refine hp.dkS ?_
    conv => whnf
    refine Om.of _ (sv_add (dcF g (n / 10)) [dgt (n % 10)] (by simp; omega)) ?_
    conv => whnf
    refine Sm.live [2] ?_
    conv => whnf
    refine Sm.ofW ?_
    conv => whnf
    refine ⟨hp.fr, ?_⟩
    show _ = sv (if n < 10 then [dgt n] else dcF g (n / 10) ++ [dgt (n % 10)])
    rw [if_neg h]; rfl
theorem rdig_all : ∀ (f n : Nat), n < 10 ^ (f + 1) → f ≤ 17 → ∀ z : St, WF z → Cw Tryz.prog 42 [.int .i64 (n : Int)] z fun r s' => K0 z s' ∧ r = sv (dcF f n)
 | 0, n, hn, hf, z, wf => rdig_step 0 n hn hf (fun g h => by cases h) wf
 | f + 1, n, hn, hf, z, wf => rdig_step (f + 1) n hn hf (fun g h m hm z wf => by
     obtain rfl : f = g := by omega
     exact rdig_all f m hm (by omega) z wf) wf
theorem rdig2_spec {z : St} (wf : WF z) {n : Nat} (hn : n < 100) : Cw Tryz.prog 42 [.int .i64 (n : Int)] z fun r s' => K0 z s' ∧ r = sv (itoaF n) := by
 rw [← dec_itoa n hn 1 (by decide)]
 exact rdig_all 1 n (by omega) (by decide) z wf
end

/- The document's lines read, walked. No condition. -/
section
variable [Lk]
end

/- The document's lines read, printed and turned, walked. No condition. -/
section
variable [Lk]
end

/- The document's lines printed, walked. No condition. -/
section
variable [Lk]
end

/- The document's law of lines, walked. No condition. -/
section
variable [Lk]
theorem index_amt {s : St} {κ : Option Nat} {v : Value} {l : List Ln} (h : Sln s κ v l) (k : IntKind) {i : Nat} (hi : i < l.length) :
  ∃ b off, evIndexAddr Tryz.prog 24 v (.int k (i : Int)) = some (.pointer (some ⟨b, off, none⟩)) ∧ evLoad Tryz.prog 29 (.pointer (some ⟨b, off + 1, none⟩)) s = some l[i].amt.val := by
 obtain ⟨j, hi1, hi2, hi3, hi4⟩ := LT.hi
 rcases h.ex with ⟨rfl, h0, _, _⟩ | ⟨b, off, c, C, rfl, hc, hl, hs, hm⟩
 · omega
 · have hr : s.rd b = some C := by
    rcases hm with ⟨k, _, hm⟩ | ⟨_, hm⟩
    · exact hm.rd
    · exact hm.rd
   refine ⟨b, off + i * 6, ?_, ?_⟩
   · show (match Tryz.prog.underlying 24, Value.slice (some ⟨b, off, none⟩) l.length c, Value.int k (.ofNat i) with
      | some (.slice e), .slice (some a) n _, .int _ (.ofNat i) => match Nat.blt i n, Tryz.prog.info? e with
        | true, some j => some (Value.pointer (some ⟨a.block, a.off + i * j.size, none⟩))
        | _, _ => none
      | some (.array n e), .pointer (some a), .int _ (.ofNat i) => match Nat.blt i n, Tryz.prog.info? e with
        | true, some j => some (Value.pointer (some ⟨a.block, a.off + i * j.size, none⟩))
        | _, _ => none
      | _, _, _ => none) = _
     rw [LT.hu]
     simp only [blt_of hi, hi1, hi2]
   · have hc : ((lnC l).drop (i * 6 + 1)).take 4 = l[i].amt.cells := by
      have := lnC_at hi
      rw [← List.drop_drop]
      have e : (List.drop 1 (List.drop (i * 6) (lnC l))).take 4 = (List.drop 1 ((List.drop (i * 6) (lnC l)).take 6)).take 4 := by
       rw [List.drop_take, List.take_take]; rfl
      rw [e, this]; rfl
     have := load_agg (P := Tryz.prog) (t := 29) (off := off + i * 6 + 1) Tryz.underlying29 (by rfl) hr (sl_sub (i := i * 6 + 1) (m := 4) hs (by omega))
     rw [hc] at this
     exact this
end

/- Lines that are alike; chapter 12's example. No condition. -/
section
variable [Lk]
theorem ln_e (a b : Ln) : evEq Tryz.prog 10000 35 a.val b.val = some (a.acct == b.acct && ((a.amt.neg == b.amt.neg && ((((a.amt.c % w64 : Nat) : Int) == ((b.amt.c % w64 : Nat) : Int) && ((a.amt.c / w64 : Nat) : Int) == ((b.amt.c / w64 : Nat) : Int)) && a.amt.scale == b.amt.scale)) && a.wth == b.wth)) := by
 obtain ⟨aa, ⟨an, ac, ae⟩, aw⟩ := a
 obtain ⟨ba, ⟨bn, bc, be⟩, bw⟩ := b
 have key : ∀ qa q1 q2 r qw : Bool, (aa == ba) = qa → (((ac % w64 : Nat) : Int) == ((bc % w64 : Nat) : Int)) = q1 → (((ac / w64 : Nat) : Int) == ((bc / w64 : Nat) : Int)) = q2 → (ae == be) = r → (aw == bw) = qw → evEq Tryz.prog 10000 35 (Ln.val ⟨aa, ⟨an, ac, ae⟩, aw⟩) (Ln.val ⟨ba, ⟨bn, bc, be⟩, bw⟩) = some (qa && ((an == bn && ((q1 && q2) && r)) && qw)) := by
  intro qa q1 q2 r qw h0 h1 h2 h3 h4
  cases an <;> cases bn
  all_goals first
   | (show (match (some (aa == ba) : Option Bool) with | some true => (match (match (match (some (((ac % w64 : Nat) : Int) == ((bc % w64 : Nat) : Int)) : Option Bool) with | some true => (match (some (((ac / w64 : Nat) : Int) == ((bc / w64 : Nat) : Int)) : Option Bool) with | some true => some true | some false => some false | none => none) | some false => some false | none => none) with | some true => (match (some (ae == be) : Option Bool) with | some true => some true | some false => some false | none => none) | some false => some false | none => none) with | some true => (match (some (aw == bw) : Option Bool) with | some true => some true | some false => some false | none => none) | some false => some false | none => none) | some false => some false | none => none) = _
      rw [h0, h1, h2, h3, h4]
      cases qa <;> cases q1 <;> cases q2 <;> cases r <;> cases qw <;> rfl)
   | (show (match (some (aa == ba) : Option Bool) with | some true => some false | some false => some false | none => none) = _
      rw [h0]
      cases qa <;> rfl)
 exact key _ _ _ _ _ rfl rfl rfl rfl rfl
def eqLn (a b : Ln) : Bool := a.acct == b.acct && (eqD a.amt b.amt && a.wth == b.wth)
theorem ln_ne (a b : Ln) (c : Bool) : evBin Tryz.prog .neq 35 c a.val b.val = some (.bool (!eqLn a b)) := by
 have hg : Tryz.prog.eqGuardType Tryz.prog.depth 35 = false := by decide +kernel
 show (match !(Tryz.prog.eqGuardType Tryz.prog.depth 35) with | false => none | true => (match evEq Tryz.prog 10000 35 a.val b.val with | some b => some (Value.bool (!b)) | none => none)) = _
 rw [hg, ln_e, words_eq]; rfl
theorem eqLn_self (a : Ln) : eqLn a a = true := by
 unfold eqLn eqD
 simp
theorem eqLn_iff {a b : Ln} : eqLn a b = true ↔ a = b := by
 constructor
 · intro h
   unfold eqLn eqD at h
   simp only [Bool.and_eq_true, beq_iff_eq, decide_eq_true_eq] at h
   obtain ⟨aa, ⟨an, ac, ae⟩, aw⟩ := a
   obtain ⟨ba, ⟨bn, bc, be⟩, bw⟩ := b
   simp only at h
   obtain ⟨h1, ⟨h2, h3, h4⟩, h5⟩ := h
   subst h1 h2 h3 h4 h5
   rfl
 · rintro rfl; exact eqLn_self a
end

/- EntryLimits walked. No condition. -/
section
variable [Lk]
theorem pickN (x : Int) {n : Nat} (h : 0 < n) : ∃ k : Nat, x % (n : Int) = k ∧ k < n := by
 have h1 := Int.emod_nonneg x (show (n : Int) ≠ 0 by omega)
 have h2 := Int.emod_lt_of_pos x (show (0 : Int) < (n : Int) by omega)
 exact ⟨(x % (n : Int)).toNat, by omega, by omega⟩
end

/- EntryBack walked. No condition. -/
section
variable [Lk]
instance lnDec : DecidableEq Ln := fun a b => decidable_of_iff (eqLn a b = true) eqLn_iff
end

/- EntryEven walked. No condition. -/
section
variable [Lk]
end

/- EntryKnown walked. No condition. -/
section
variable [Lk]
theorem oneF_c (t : List UInt8) : (oneF t).1.amt.c < w128 := by
 unfold oneF
 simp only
 split
 · decide
 · split
   · decide
   · exact readD_c _
theorem readL_c (l : List UInt8) : ∀ x ∈ (readL l).1, x.amt.c < w128 := by
 unfold readL
 split
 · simp
 · split
   · simp
   · split
     · simp
     · intro x hx
       obtain ⟨t, _, rfl⟩ := List.mem_map.1 hx
       exact oneF_c t
end

/- Commands: numbers, verbs, their shapes. No condition. -/
section
variable [Lk]
theorem cnumber_spec {z : St} (wf : WF z) (hg : Gs z) (l : List UInt8) (hl : l.length ≤ 281474976710656) :
  Cw Tryz.prog 119 [sv l] z fun r s' => K0 z s' ∧ ∃ n : Int, r = .tuple #[.int .i64 n, .bool (decide (¬ smallF l < 0))] ∧ (¬ smallF l < 0 → n = smallF l) := by
 have hp : Hp (fun _ => False) z [] [] z := Hp.start _ wf _ (by simp)
 refine Cw.enterS Tryz.func119 rfl rfl ?_
 refine Sm.seqW ?_
 conv => whnf
 refine Sm.live [0] ?_
 conv => whnf
 refine Sm.seqW ?_
 conv => whnf
 refine hp.call (atoi2_spec hp.wf hg l hl) ?_
 clear hp
 rintro _ s ⟨n, e, rfl, hn, he, hk⟩ hp _
 have fin : ∀ b : Bool, (b = true ↔ ∃ j, j < 100 ∧ l = itoaF j) → (∃ n' : Int, Value.tuple #[.int .i64 n, .bool b] = .tuple #[.int .i64 n', .bool (decide (¬ smallF l < 0))] ∧ (¬ smallF l < 0 → n' = smallF l)) := by
  intro b hb
  have e1 : b = decide (¬ smallF l < 0) := by rw [Bool.eq_iff_iff, hb, decide_eq_true_iff]; exact small_iff.symm
  refine ⟨n, by rw [e1], fun h => ?_⟩
  obtain ⟨k, h1, h2, h3⟩ := smallF_ok h
  rw [h3]; exact (hk k h1 h2).1
 conv => whnf
 refine Sm.live [0, 4, 5] ?_
 conv => whnf
 refine Sm.seqW ?_
 conv => whnf
 rcases he with rfl | ⟨v, rfl⟩
 · refine Om.of (.bool true) (by kernel_rfl) ?_
   conv => whnf
   by_cases h1 : 0 ≤ n
   · have q1 : decide (n ≥ 0) = true := decide_eq_true h1
     by_cases h2 : n < 100
     · have q2 : decide (n < 100) = true := decide_eq_true h2
       obtain ⟨k, rfl⟩ : ∃ k : Nat, n = k := ⟨n.toNat, by omega⟩
       repeat (first | (refine Br.yes q1 ?_; conv => whnf) | (refine Br.yes q2 ?_; conv => whnf) | ((first | refine Br.y1 ?_ | refine Br.n1 ?_); conv => whnf))
       refine (itoa2_spec _ (show k < 100 by omega)).mono ?_
       rintro _ s1 ⟨h1, rfl⟩
       obtain rfl := h1.symm
       conv => whnf
       repeat (first | (refine Br.yes q1 ?_; conv => whnf) | (refine Br.yes q2 ?_; conv => whnf) | ((first | refine Br.y1 ?_ | refine Br.n1 ?_); conv => whnf))
       refine Om.of _ (sv_eq (itoaF k) l) ?_
       conv => whnf
       repeat (first | (refine Br.yes q1 ?_; conv => whnf) | (refine Br.yes q2 ?_; conv => whnf) | ((first | refine Br.y1 ?_ | refine Br.n1 ?_); conv => whnf))
       refine Sm.live [2, 3] ?_
       conv => whnf
       refine Sm.ofW ?_
       conv => whnf
       refine ⟨hp.fr, fin _ ?_⟩
       rw [beq_iff_eq]
       constructor
       · intro h; exact ⟨k, by omega, h.symm⟩
       · rintro ⟨j, h3, h4⟩
         have := (hk j h3 h4).1
         have : k = j := Int.ofNat.inj this
         subst this
         exact h4.symm
     · have q2 : decide (n < 100) = false := decide_eq_false h2
       repeat (first | (refine Br.yes q1 ?_; conv => whnf) | (refine Br.no q2 ?_; conv => whnf) | ((first | refine Br.y1 ?_ | refine Br.n1 ?_); conv => whnf))
       refine Sm.live [2, 3] ?_
       conv => whnf
       refine Sm.ofW ?_
       conv => whnf
       exact ⟨hp.fr, fin _ ⟨fun h => (by cases h), fun ⟨j, h3, h4⟩ => by have := (hk j h3 h4).1; omega⟩⟩
   · have q1 : decide (n ≥ 0) = false := decide_eq_false h1
     repeat (first | (refine Br.no q1 ?_; conv => whnf) | ((first | refine Br.y1 ?_ | refine Br.n1 ?_); conv => whnf))
     refine Sm.live [2, 3] ?_
     conv => whnf
     refine Sm.ofW ?_
     conv => whnf
     exact ⟨hp.fr, fin _ ⟨fun h => (by cases h), fun ⟨j, h3, h4⟩ => by have := (hk j h3 h4).1; omega⟩⟩
 · refine Om.of (.bool false) (by rfl) ?_
   conv => whnf
   repeat ((first | refine Br.y1 ?_ | refine Br.n1 ?_); conv => whnf)
   refine Sm.live [2, 3] ?_
   conv => whnf
   refine Sm.ofW ?_
   conv => whnf
   exact ⟨hp.fr, fin _ ⟨fun h => (by cases h), fun ⟨j, h3, h4⟩ => by have := (hk j h3 h4).2; cases this⟩⟩
def tailF (v : Int) : Bool := v == 1 || (v == 5 || v == 9)
theorem tailed_spec (s : St) (v : Int) : Cw Tryz.prog 77 [.int .i64 v] s fun r s' => s' = s ∧ r = .bool (tailF v) := by
 refine Cw.enterS Tryz.func77 rfl rfl ?_
 refine Sm.seqW ?_
 conv => whnf
 refine Sm.live [0] ?_
 conv => whnf
 refine Sm.ofW ?_
 conv => whnf
 repeat' (first | (refine Br.yes (by first | with_reducible rfl | with_reducible assumption) ?_; conv => whnf) | (refine Br.no (by first | with_reducible rfl | with_reducible assumption) ?_; conv => whnf) | (refine Br.mk (fun hq => ?_) (fun hq => ?_) <;> conv => whnf))
 all_goals refine ⟨rfl, congrArg Value.bool ?_⟩
 all_goals unfold tailF
 all_goals first | (simp_all; done) | (rw [‹(v == 1) = false›, ‹(v == 5) = false›]; rfl)
def shpL : List (List UInt8 × Nat) := [([112, 111, 115, 116], 2), ([114, 101, 118, 101, 114, 115, 101], 3), ([99, 108, 111, 115, 101], 2), ([114, 101, 111, 112, 101, 110], 2), ([114, 97, 116, 101], 3), ([116, 114, 105, 97, 108], 2), ([99, 111, 110, 115, 111, 108], 2), ([109, 97, 116, 99, 104], 2), ([113, 117, 101, 114, 121], 0), ([114, 101, 108, 101, 97, 115, 101], 2), ([114, 101, 108, 101, 97, 115, 101, 100], 0), ([99, 104, 97, 105, 110], 1), ([103, 114, 111, 117, 112], 1)]
def shC (x : List UInt8 × Nat) : List Value := [sv x.1, .int .i64 (x.2 : Int)]
def shV (x : List UInt8 × Nat) : Value := .agg #[sv x.1, .int .i64 (x.2 : Int)]
def shape (v : Int) : (List UInt8 × Nat) × Bool := if v < 1 ∨ 14 ≤ v then (([], 0), false) else (shpL.getD (v - 1).toNat ([], 0), true)
theorem SHT : SlT Tryz.prog 174 111 2 24 (shV ([], 0)) := ⟨Tryz.underlying174, ⟨_, rfl, rfl, rfl, rfl⟩, rfl, rfl, by decide, by decide⟩
theorem shapeOf_spec {z : St} (wf : WF z) (v : Int) : Cw Tryz.prog 80 [.int .i64 v] z fun r s' => K0 z s' ∧ r = .tuple #[shV (shape v).1, .bool (shape v).2] := by
 have hp : Hp (fun _ => False) z [] [] z := Hp.start _ wf _ (by simp)
 refine Cw.enterS Tryz.func80 rfl rfl ?_
 refine Sm.seqW ?_
 conv => whnf
 refine hp.alloc (cs := shC ([], 0)) (e := 2) rfl rfl rfl rfl rfl ?_
 clear hp
 intro p2 s hp _
 conv => whnf
 refine Sm.live [0, 2] ?_
 conv => whnf
 refine Sm.seqW ?_
 conv => whnf
 refine hp.lit (cs := shpL.flatMap shC) (e := 2) (by rfl) ?_
 clear hp
 intro b4 s hp _
 conv => whnf
 refine Sm.live [0, 2, 4] ?_
 conv => whnf
 refine Sm.seq ?_
 refine Sm.seqC (fun e' L' s' => e' = .normal ∧ s' = s ∧ Sub [(0, .int .i64 v), (2, .pointer (some ⟨p2, 0, none⟩)), (4, .slice (some ⟨b4, 0, none⟩) 13 13), (24, .bool (decide (v < 1 ∨ 14 ≤ v)))] L') ?_ ?_
 · conv => whnf
   by_cases h1 : v < 1
   · have q1 : decide (v < 1) = true := decide_eq_true h1
     repeat (first | (refine Br.yes q1 ?_; conv => whnf) | ((first | refine Br.y1 ?_ | refine Br.n1 ?_); conv => whnf))
     exact ⟨rfl, rfl, subK_ok ⟨rfl, rfl, rfl, congrArg (fun x => some (Value.bool x)) (decide_eq_true (.inl h1)).symm, trivial⟩⟩
   · have q1 : decide (v < 1) = false := decide_eq_false h1
     repeat (first | (refine Br.no q1 ?_; conv => whnf) | ((first | refine Br.y1 ?_ | refine Br.n1 ?_); conv => whnf))
     exact ⟨rfl, rfl, subK_ok ⟨rfl, rfl, rfl, congrArg (fun x => some (Value.bool x)) (decide_eq_decide.2 ⟨fun h => .inr h, fun h => h.resolve_left h1⟩), trivial⟩⟩
 rintro e L' s' ⟨rfl, rfl, hs⟩
 refine Sm.weak _ hs ?_
 clear hs
 refine Sm.ofW ?_
 conv => whnf
 unfold shape
 by_cases h : v < 1 ∨ 14 ≤ v
 · rw [if_pos h]
   refine Br.yes (decide_eq_true h) ?_
   conv => whnf
   refine hp.storeW (vs := shC ([], 0)) rfl .d csx rfl rfl rfl ?_
   clear hp
   intro s hp _
   conv => whnf
   refine hp.loadA (l := shC ([], 0)) .d rfl (by rfl) rfl rfl ?_
   conv => whnf
   exact ⟨hp.fr, rfl⟩
 · rw [if_neg h]
   refine Br.no (decide_eq_false h) ?_
   conv => whnf
   refine Sm.seqW ?_
   conv => whnf
   obtain ⟨k, hk⟩ : ∃ k : Nat, v - 1 = k := ⟨(v - 1).toNat, by omega⟩
   have hk2 : k < 13 := by omega
   rw [wi64 (n := v - 1) (by omega) (by omega), hk]
   refine Om.of _ (idx_at (P := Tryz.prog) SHT (b := b4) (off := 0) (c := 13) (n := 13) .i64 hk2) ?_
   conv => whnf
   have hC : (Go.Ev.sl (shpL.flatMap shC) (0 + k * 2) 2) = some (shC (shpL.getD k ([], 0))) := by
    have h7 : k = 0 ∨ k = 1 ∨ k = 2 ∨ k = 3 ∨ k = 4 ∨ k = 5 ∨ k = 6 ∨ k = 7 ∨ k = 8 ∨ k = 9 ∨ k = 10 ∨ k = 11 ∨ k = 12 := by omega
    rcases h7 with rfl | rfl | rfl | rfl | rfl | rfl | rfl | rfl | rfl | rfl | rfl | rfl | rfl <;> rfl
   refine hp.loadA (l := shC (shpL.getD k ([], 0))) .d rfl hC rfl rfl ?_
   conv => whnf
   refine hp.storeW (vs := shC (shpL.getD k ([], 0))) rfl .d csx rfl rfl rfl ?_
   clear hp
   intro s hp _
   conv => whnf
   refine Sm.live [2, 3] ?_
   conv => whnf
   refine Sm.ofW ?_
   conv => whnf
   refine hp.loadA (l := shC (shpL.getD k ([], 0))) .d rfl (by rfl) rfl rfl ?_
   conv => whnf
   exact ⟨hp.fr, rfl⟩
def verbF (w : List UInt8) : Nat → Nat → Nat
 | 0, _ => 0
 | n + 1, k => if (shape (k : Int)).1.1 = w then k else verbF w n (k + 1)
def verbN (w : List UInt8) : Nat := verbF w 13 1
theorem verb_spec {z : St} (wf : WF z) (w : List UInt8) : Cw Tryz.prog 75 [sv w] z fun r s' => K0 z s' ∧ r = .tuple #[.int .i64 (verbN w : Int), shV (shape (verbN w)).1] := by
 have hp : Hp (fun _ => False) z [] [] z := Hp.start _ wf _ (by simp)
 refine Cw.enterS Tryz.func75 rfl rfl ?_
 refine Sm.seqW ?_
 conv => whnf
 refine hp.alloc (cs := shC ([], 0)) (e := 2) rfl rfl rfl rfl rfl ?_
 clear hp
 intro p3 s hp _
 conv => whnf
 refine Sm.live [0, 3] ?_
 conv => whnf
 refine Sm.seq ?_
 refine Sm.seqW ?_
 conv => whnf
 refine Sm.live [0, 3, 4] ?_
 conv => whnf
 refine Sm.block ?_
 refine Sm.loop ?_
 refine Lp.ofS (α := Nat) (fun i => [(0, sv w), (3, .pointer (some ⟨p3, 0, none⟩)), (4, .int .i64 ((i + 1 : Nat) : Int))])
  (fun i s' => i ≤ 13 ∧ verbN w = verbF w (13 - i) (i + 1) ∧ Hp (fun _ => False) z [] [blkA p3 p3 (shC ([], 0)) 2] s') (fun i => 13 - i) ?_ 0 (subK_ok (by refine ⟨rfl, rfl, rfl, trivial⟩)) ⟨Nat.zero_le _, rfl, hp⟩
 clear hp
 rintro i s ⟨hi, hv, hp⟩
 refine Sm.seq ?_
 refine Sm.seqW ?_
 conv => whnf
 refine Sm.live [0, 3, 4, 8] ?_
 conv => whnf
 refine Sm.ofW ?_
 conv => whnf
 refine Br.mk (fun hc => ?_) (fun hc => ?_)
 · have hc : i < 13 := by have : ((i + 1 : Nat) : Int) < 14 := of_decide_eq_true hc; omega
   rw [show 13 - i = (12 - i) + 1 by omega, verbF] at hv
   conv => whnf
   refine Sm.seq ?_
   refine Sm.block ?_
   refine Sm.seqW ?_
   conv => whnf
   refine hp.call (shapeOf_spec hp.wf ((i + 1 : Nat) : Int)) ?_
   clear hp
   rintro _ s rfl hp _
   conv => whnf
   refine hp.alloc (cs := shC ([], 0)) (e := 2) rfl rfl rfl rfl rfl ?_
   clear hp
   intro p5 s hp _
   conv => whnf
   refine hp.storeW (vs := shC (shape ((i + 1 : Nat) : Int)).1) rfl .d csx rfl rfl rfl ?_
   clear hp
   intro s hp _
   conv => whnf
   refine Sm.live [0, 3, 4, 5] ?_
   conv => whnf
   refine Sm.seqW ?_
   conv => whnf
   refine hp.load (v := sv (shape ((i + 1 : Nat) : Int)).1.1) .d (by rfl) rfl rfl rfl ?_
   conv => whnf
   refine Om.of _ (sv_eq (shape ((i + 1 : Nat) : Int)).1.1 w) ?_
   conv => whnf
   refine Sm.live [0, 3, 4, 5, 19] ?_
   conv => whnf
   refine Sm.ofW ?_
   conv => whnf
   by_cases hw : (shape ((i + 1 : Nat) : Int)).1.1 = w
   · rw [if_pos hw] at hv
     refine Br.yes (beq_iff_eq.2 hw) ?_
     conv => whnf
     refine ⟨[0, 0, 1, 7], by decide +kernel, by decide +kernel, ?_⟩
     conv => whnf
     refine hp.loadA (l := shC (shape ((i + 1 : Nat) : Int)).1) .d rfl (by rfl) rfl rfl ?_
     conv => whnf
     refine hp.rst.storeW (vs := shC (shape ((i + 1 : Nat) : Int)).1) rfl .d csx rfl rfl rfl ?_
     intro s1 h1 l1
     conv => whnf
     refine hp.dkW h1 l1 ?_
     clear hp h1 l1
     intro s hp
     conv => whnf
     refine hp.loadA (l := shC (shape ((i + 1 : Nat) : Int)).1) .d rfl (by rfl) rfl rfl ?_
     conv => whnf
     exact ⟨hp.fr, by rw [hv]; rfl⟩
   · rw [if_neg hw] at hv
     refine Br.no (beq_eq_false_iff_ne.2 hw) ?_
     conv => whnf
     refine Sm.ofW ?_
     conv => whnf
     exact ⟨i + 1, by (show 13 - (i + 1) < 13 - i); omega, subK_ok (by refine ⟨rfl, rfl, congrArg (fun x => some (Value.int .i64 x)) (show IntKind.i64.wrap (((i + 1 : Nat) : Int) + 1) = ((i + 1 + 1 : Nat) : Int) by rw [wi64 (by omega) (by omega)]; omega), trivial⟩), by omega, by rw [hv, show 12 - i = 13 - (i + 1) by omega], hp.pik (by repeat (first | exact Pik.nil | exact Pik.refl _ | exact Rm.here | apply Rm.there | apply Pik.cons | apply Pik.skip))⟩
 · have hc : i = 13 := by have : ¬ ((i + 1 : Nat) : Int) < 14 := of_decide_eq_false hc; omega
   subst hc
   have hv : verbN w = 0 := hv
   rw [hv]
   conv => whnf
   refine Sm.seqW ?_
   conv => whnf
   refine hp.storeW (vs := shC ([], 0)) rfl .d csx rfl rfl rfl ?_
   clear hp
   intro s hp _
   conv => whnf
   refine Sm.live [2, 3] ?_
   conv => whnf
   refine Sm.ofW ?_
   conv => whnf
   refine hp.loadA (l := shC ([], 0)) .d rfl (by rfl) rfl rfl ?_
   conv => whnf
   exact ⟨hp.fr, rfl⟩
end

/- Commands: the numbers of a text. No condition. -/
section
variable [Lk]
theorem PTR : SlT Tryz.prog 171 172 1 8 (.pointer none) := ⟨Tryz.underlying171, ⟨_, rfl, rfl, rfl, rfl⟩, rfl, rfl, by decide, by decide⟩
theorem slice_ptr {s : St} {k b : Nat} {C : List Value} (hb : Blk s k b C 1) {c : Nat} (hc : c ≤ 3) : evSliceMem Tryz.prog 171 (.slice (some ⟨b, 0, none⟩) 3 3) none (some (.int .i64 (c : Int))) none s = some (.slice (some ⟨b, 0, none⟩) c 3) := by
 obtain ⟨i, h1, h2, h3, h4⟩ := PTR.hi
 unfold evSliceMem
 rw [PTR.hu]
 simp only [h1, hb.esz, h2]
 have h : c = 0 ∨ c = 1 ∨ c = 2 ∨ c = 3 := by omega
 rcases h with rfl | rfl | rfl | rfl <;> rfl
def cmC (v a b c : Int) (T : List Value) : List Value := .int .i64 v :: .int .i64 a :: .int .i64 b :: .int .i64 c :: T
def numsF : Nat → List UInt8 → Bool → Option (List Int × List UInt8 × Bool)
 | 0, r, q => some ([], r, q)
 | n + 1, r, q => if q = false ∨ smallF (cut1 32 r) < 0 then none else (numsF n (cut2 32 r) (cutQ 32 r)).map fun x => (smallF (cut1 32 r) :: x.1, x.2)
def numsV : Option (List Int × List UInt8 × Bool) → Value
 | none => .tuple #[sv [], .bool false, .bool false]
 | some x => .tuple #[sv x.2.1, .bool x.2.2, .bool true]
theorem cm_set {v m : Int} {T : List Value} : ∀ {L : List Int}, L.length < 3 → (cmC v (L.getD 0 0) (L.getD 1 0) (L.getD 2 0) T).set (L.length + 1) (.int .i64 m) = cmC v ((L ++ [m]).getD 0 0) ((L ++ [m]).getD 1 0) ((L ++ [m]).getD 2 0) T
 | [], _ => rfl
 | [x], _ => rfl
 | [x, y], _ => rfl
 | x :: y :: z :: r, h => by simp only [List.length_cons] at h; omega
section
variable {X : Nat → Prop} {s0 s s' : St} {R F G H : List At} {p : Nat}
theorem numbers_spec (hp : Hp X s0 R F s) (hg : Gs s0) {v : Int} {T : List Value} (hT : T.length = 6) (h1 : Rm (blkA p p (cmC v 0 0 0 T) 10) F G) (r : List UInt8) (hr : r.length ≤ 10000000000000) (q : Bool) {n : Nat} (hn : n ≤ 3) {K : Value → St → Prop}
  (hK : ∀ a b c s', Hp X s0 R (blkA p p (cmC v a b c T) 10 :: G) s' → (∀ x, numsF n r q = some x → a = x.1.getD 0 0 ∧ b = x.1.getD 1 0 ∧ c = x.1.getD 2 0) → K (numsV (numsF n r q)) s') :
  Cw Tryz.prog 76 [.pointer (some ⟨p, 0, none⟩), sv r, .bool q, .int .i64 (n : Int)] s K := by
 replace hp : Hp X s0 R (blkA p p (cmC v 0 0 0 T) 10 :: G) s := hp.pik (.cons h1 (.refl _))
 clear h1
 refine Cw.enterS Tryz.func76 rfl rfl ?_
 refine Sm.seqW ?_
 conv => whnf
 refine Sm.live [0, 1, 2, 3] ?_
 conv => whnf
 refine Sm.seq ?_
 refine Sm.seqW ?_
 conv => whnf
 refine ⟨[0, 1, 3, 0, 8, 24, 0, 64, 192, 511, 0, 2047, 4095, 0], by decide +kernel, by decide +kernel, ?_⟩
 conv => whnf
 refine hp.rst.lit (cs := [.pointer (some ⟨p, 1, none⟩), .pointer (some ⟨p, 2, none⟩), .pointer (some ⟨p, 3, none⟩)]) (e := 1) (by rfl) ?_
 intro b s1 h1 k1
 conv => whnf
 refine hp.dkN h1 k1 ?_
 clear hp h1 k1
 intro s hp
 conv => whnf
 refine Om.of _ (slice_ptr (hp.at (show Has (blkA b b _ 1) _ _ by repeat constructor)) hn) ?_
 conv => whnf
 try (refine ⟨Hp.saN, ?_⟩; (conv => whnf))
 refine Sm.live [1, 2, 27, 28, 29] ?_
 conv => whnf
 refine Sm.block ?_
 refine Sm.loop ?_
 refine Lp.ofS (α := List Int × List UInt8 × Bool) (fun x => [(1, sv x.2.1), (2, .bool x.2.2), (27, .slice (some ⟨b, 0, none⟩) n 3), (28, .int .i64 (n : Int)), (29, .int .i64 (x.1.length : Int))])
  (fun x s' => x.1.length ≤ n ∧ x.2.1.length ≤ r.length ∧ numsF n r q = (numsF (n - x.1.length) x.2.1 x.2.2).map (fun y => (x.1 ++ y.1, y.2)) ∧ Hp X s0 R (blkA b b [.pointer (some ⟨p, 1, none⟩), .pointer (some ⟨p, 2, none⟩), .pointer (some ⟨p, 3, none⟩)] 1 :: blkA p p (cmC v (x.1.getD 0 0) (x.1.getD 1 0) (x.1.getD 2 0) T) 10 :: G) s') (fun x => n - x.1.length) ?_ ([], r, q) (subK_ok (by refine ⟨rfl, rfl, rfl, rfl, rfl, trivial⟩)) ⟨Nat.zero_le _, Nat.le_refl _, by simp, hp⟩
 clear hp
 rintro ⟨L, r1, q1⟩ s ⟨hi, hr1, hnum, hp⟩
 simp only at hi hr1 hnum hp
 refine Sm.seqW ?_
 conv => whnf
 refine Sm.live [1, 2, 27, 28, 29, 30] ?_
 conv => whnf
 refine Sm.seq ?_
 refine Sm.ofW ?_
 conv => whnf
 refine Br.mk (fun hc => ?_) (fun hc => ?_)
 · have hc : L.length < n := by have : (L.length : Int) < (n : Int) := of_decide_eq_true hc; omega
   rw [show n - L.length = (n - (L.length + 1)) + 1 by omega, numsF] at hnum
   have hcell : ([.pointer (some ⟨p, 1, none⟩), .pointer (some ⟨p, 2, none⟩), .pointer (some ⟨p, 3, none⟩)] : List Value)[0 + L.length * 1]? = some (.pointer (some ⟨p, L.length + 1, none⟩)) := by
    have h : L.length = 0 ∨ L.length = 1 ∨ L.length = 2 := by omega
    rcases h with h | h | h <;> rw [h] <;> rfl
   conv => whnf
   refine Sm.seq ?_
   refine Sm.block ?_
   refine Sm.seqW ?_
   conv => whnf
   refine Om.of _ (idx_at (P := Tryz.prog) PTR (b := b) (off := 0) (c := 3) (n := n) .i64 hc) ?_
   conv => whnf
   refine hp.load (v := .pointer (some ⟨p, L.length + 1, none⟩)) .d hcell rfl rfl rfl ?_
   conv => whnf
   refine Sm.live [1, 2, 12, 27, 28, 29] ?_
   conv => whnf
   refine Sm.seq ?_
   refine Sm.seqW ?_
   conv => whnf
   refine Sm.live [1, 12, 27, 28, 29, 34] ?_
   conv => whnf
   refine Sm.ofW ?_
   conv => whnf
   cases q1 with
   | false =>
     repeat ((first | refine Br.y1 ?_ | refine Br.n1 ?_); conv => whnf)
     rw [if_pos (.inl rfl)] at hnum
     have hnum : numsF n r q = none := hnum
     have hK := hK _ _ _ _ (hp.pik (by repeat (first | exact Pik.nil | exact Pik.refl _ | exact Rm.here | apply Rm.there | apply Pik.cons | apply Pik.skip))) (fun x hx => by rw [hnum] at hx; cases hx)
     rw [hnum] at hK
     exact ⟨hK⟩
   | true =>
     repeat ((first | refine Br.y1 ?_ | refine Br.n1 ?_); conv => whnf)
     refine Sm.seqW ?_
     conv => whnf
     refine Sm.live [1, 12, 27, 28, 29] ?_
     conv => whnf
     refine Sm.seqW ?_
     conv => whnf
     refine (cut_spec _ r1 (by omega) 32).mono ?_
     rintro _ s1 ⟨h1, rfl⟩
     obtain rfl := h1.symm
     conv => whnf
     rw [cut_val]
     conv => whnf
     refine Sm.live [1, 2, 12, 13, 27, 28, 29] ?_
     conv => whnf
     refine Sm.seqW ?_
     conv => whnf
     have hlen := cut1_len 32 r1
     have hlen2 := cut2_len 32 r1
     refine hp.call (cnumber_spec hp.wf (hg.keep hp.fr) (cut1 32 r1) (by omega)) ?_
     clear hp
     rintro _ s ⟨m, rfl, hm⟩ hp _
     conv => whnf
     refine Sm.live [1, 2, 12, 14, 15, 27, 28, 29] ?_
     conv => whnf
     refine Sm.seq ?_
     refine Sm.seqW ?_
     conv => whnf
     refine Sm.live [1, 2, 12, 14, 27, 28, 29, 47] ?_
     conv => whnf
     refine Sm.ofW ?_
     conv => whnf
     by_cases hsm : smallF (cut1 32 r1) < 0
     · rw [if_pos (.inr hsm)] at hnum
       have hnum : numsF n r q = none := hnum
       have hK := hK _ _ _ _ (hp.pik (by repeat (first | exact Pik.nil | exact Pik.refl _ | exact Rm.here | apply Rm.there | apply Pik.cons | apply Pik.skip))) (fun x hx => by rw [hnum] at hx; cases hx)
       rw [hnum] at hK
       refine Br.yes (by rw [decide_eq_false (fun h => h hsm)]; rfl) ?_
       conv => whnf
       exact ⟨hK⟩
     · rw [if_neg (fun h => h.elim (by decide) hsm)] at hnum
       have hm := hm hsm
       subst hm
       refine Br.no (by rw [decide_eq_true hsm]; rfl) ?_
       conv => whnf
       refine Sm.ofW ?_
       conv => whnf
       refine hp.store (v := .int .i64 (smallF (cut1 32 r1))) (off := L.length + 1) .d (by show L.length + 1 < T.length + 4; omega) rfl rfl rfl rfl ?_
       clear hp
       intro s hp _
       rw [cm_set (show L.length < 3 by omega)] at hp
       conv => whnf
       refine Sm.ofW ?_
       conv => whnf
       exact ⟨(L ++ [smallF (cut1 32 r1)], cut2 32 r1, cutQ 32 r1), by (show n - (L ++ [smallF (cut1 32 r1)]).length < n - L.length); rw [List.length_append]; simp; omega, subK_ok (by refine ⟨rfl, rfl, rfl, rfl, congrArg (fun x => some (Value.int .i64 x)) (show IntKind.i64.wrap ((L.length : Int) + 1) = (((L ++ [smallF (cut1 32 r1)]).length : Nat) : Int) by rw [wi64 (by omega) (by omega), List.length_append]; simp), trivial⟩), by (show (L ++ [smallF (cut1 32 r1)]).length ≤ n); rw [List.length_append]; simp; omega, by (show (cut2 32 r1).length ≤ r.length); omega, by
        rw [hnum, List.length_append]
        show _ = (numsF (n - (L.length + 1)) (cut2 32 r1) (cutQ 32 r1)).map _
        cases numsF (n - (L.length + 1)) (cut2 32 r1) (cutQ 32 r1) with
        | none => rfl
        | some x => simp, hp.pik (by repeat (first | exact Pik.nil | exact Pik.refl _ | exact Rm.here | apply Rm.there | apply Pik.cons | apply Pik.skip))⟩
 · have hc : L.length = n := by have : ¬ (L.length : Int) < (n : Int) := of_decide_eq_false hc; omega
   rw [show n - L.length = 0 by omega, numsF] at hnum
   have hnum : numsF n r q = some (L, r1, q1) := by rw [hnum]; simp
   have hK := hK _ _ _ _ (hp.pik (by repeat (first | exact Pik.nil | exact Pik.refl _ | exact Rm.here | apply Rm.there | apply Pik.cons | apply Pik.skip))) (fun x hx => by rw [hnum] at hx; injection hx with hx; subst hx; exact ⟨rfl, rfl, rfl⟩)
   rw [hnum] at hK
   conv => whnf
   refine Sm.seqW ?_
   conv => whnf
   refine Sm.live [8, 9, 10] ?_
   conv => whnf
   refine Sm.ofW ?_
   conv => whnf
   exact ⟨hK⟩
end
end

/- Texts: is one of two bytes in a text of letters of one byte? No condition. -/
section
variable [Lk]
section
variable {X : Nat → Prop} {s0 s : St} {R F F' : List At} {P : Program} {t : TypeId} {b : Nat}
theorem Hp.rangeS {K : Value × St → Prop} (h : Hp X s0 R F s) (hu : P.underlying t = some .string) (x : ByteArray)
  (hk : ∀ b s', Hp X s0 R (itA b x 0 :: F) s' → K0 s s' → K (.pointer (some ⟨b, 0, none⟩), s')) : Om (evRange P t (.string x) s) K := by
 obtain ⟨g1, g2⟩ := newIter_kp h.wf x 0
 refine .of (.pointer (some ⟨s.next, 0, none⟩), s.newIter x 0) ?_ (hk _ _ (h.push g1 g2 fun j hj => by subst hj; exact Nat.le_refl _) g1)
 unfold evRange
 rw [hu]
theorem Hp.nextS {K : Value × St → Prop} (h : Hp X s0 R F s) {x : ByteArray} {pos : Nat} {c : UInt8} (m : Rm (itA b x pos) F F') (hc : (bs x)[pos]? = some c) (h7 : c.toNat < 128)
  (hk : ∀ s', Hp X s0 R (itA b x (pos + 1) :: F') s' → K (.tuple #[.bool true, .int .i64 (pos : Int), .int .i32 (c.toNat : Int)], s')) : Om (evNext (.pointer (some ⟨b, 0, none⟩)) true s) K := by
 have hI : It s b x pos := h.okF _ m.sub.1
 obtain ⟨s', w1, w2, w3, w4⟩ := setIter_kp h.wf hI (t' := x) (p' := pos + 1)
 refine .of (_, s') ?_ (hk s' (h.upd m w2 (fun j hj => .inl hj) w3 (fun j hj => .inl hj)))
 unfold evNext
 simp only [hI.ex, hc, blt_of h7, w1]
theorem Hp.nextE {K : Value × St → Prop} (h : Hp X s0 R F s) {x : ByteArray} {pos : Nat} (m : Rm (itA b x pos) F F') (hc : (bs x)[pos]? = none)
  (hk : K (.tuple #[.bool false], s)) : Om (evNext (.pointer (some ⟨b, 0, none⟩)) true s) K := by
 have hI : It s b x pos := h.okF _ m.sub.1
 refine .of (_, s) ?_ hk
 unfold evNext
 simp only [hI.ex, hc]
end
theorem indexRune_spec (s : St) (l : List UInt8) (c : UInt8) (hc : c.toNat < 128) : Cw Tryz.prog 160 [sv l, .int .i32 ((c.toNat : Nat) : Int)] s fun r s' => s' = s ∧ r = .int .i64 (ixI (idxL c.toNat l 0)) := by
 refine Cw.enterS Tryz.func160 rfl rfl ?_
 refine Sm.seqW ?_
 conv => whnf
 refine Sm.block ?_
 have q1 : decide ((0 : Int) ≤ ((c.toNat : Nat) : Int)) = true := decide_eq_true (by omega)
 have q2 : decide (((c.toNat : Nat) : Int) < 128) = true := decide_eq_true (by omega)
 refine Sm.seqW ?_
 conv => whnf
 repeat (first | (refine Br.yes q1 ?_; conv => whnf) | (refine Br.yes q2 ?_; conv => whnf) | ((first | refine Br.y1 ?_ | refine Br.n1 ?_); conv => whnf))
 refine Sm.ofW ?_
 conv => whnf
 repeat ((first | refine Br.y1 ?_ | refine Br.n1 ?_); conv => whnf)
 refine Br.yes q2 ?_
 conv => whnf
 have e1 : IntKind.u8.wrap ((c.toNat : Nat) : Int) = ((c.toNat : Nat) : Int) := by
  show ((c.toNat : Nat) : Int) % 256 = _
  omega
 rw [e1]
 refine (sindexByte_spec _ l c).mono ?_
 rintro _ s1 ⟨h1, rfl⟩
 obtain rfl := h1.symm
 conv => whnf
 exact ⟨rfl, rfl⟩
/-! ### the set of two bytes -/
abbrev ats : List UInt8 := [44, 64]
def isAt (c : UInt8) : Bool := decide (c.toNat = 44 ∨ c.toNat = 64)
def setB (i : Nat) : List Bool := (List.range 256).map fun k => decide ((0 < i ∧ k = 44) ∨ (1 < i ∧ k = 64))
theorem setB_len (i : Nat) : (setB i).length = 256 := by simp [setB]
theorem setB_step : ∀ i, (h : i < 2) → (setB i).set (ats[i]'h).toNat true = setB (i + 1) := by decide +kernel
theorem ats_lt : ∀ i, (h : i < 2) → (ats[i]'h).toNat < 128 := by decide +kernel
theorem setB_get {k : Nat} (h : k < 256) : (natB (setB 2))[k]? = some (.bool (decide (k = 44 ∨ k = 64))) := by
 unfold natB setB
 rw [List.map_map, List.getElem?_map, List.getElem?_range h]
 show some (Value.bool (decide ((0 < 2 ∧ k = 44) ∨ (1 < 2 ∧ k = 64)))) = _
 have : decide ((0 < 2 ∧ k = 44) ∨ (1 < 2 ∧ k = 64)) = decide (k = 44 ∨ k = 64) := decide_eq_decide.2 (by omega)
 rw [this]
theorem atSet_spec {z : St} (wf : WF z) : Cw Tryz.prog 162 [sv ats] z fun r s' => K0 z s' ∧ r = .tuple #[.agg (natB (setB 2)).toArray, .bool true] := by
 have hp : Hp (fun _ => False) z [] [] z := Hp.start _ wf _ (by simp)
 refine Cw.enterS Tryz.func162 rfl rfl ?_
 refine Sm.seqW ?_
 conv => whnf
 refine hp.alloc (cs := natB (setB 0)) (e := 1) rfl rfl rfl (by kernel_rfl) rfl ?_
 clear hp
 intro p2 s hp _
 conv => whnf
 refine Sm.live [0, 2] ?_
 conv => whnf
 refine Sm.seq ?_
 refine Sm.seqW ?_
 conv => whnf
 refine Sm.block ?_
 refine Sm.loop ?_
 refine Lp.ofS (α := Nat) (fun i => [(0, sv ats), (2, .pointer (some ⟨p2, 0, none⟩)), (4, .int .i64 (i : Int))])
  (fun i s' => i ≤ 2 ∧ Hp (fun _ => False) z [] [blkA p2 p2 (natB (setB i)) 1] s') (fun i => 2 - i) ?_ 0 (subK_ok (by refine ⟨rfl, rfl, rfl, trivial⟩)) ⟨by decide, hp⟩
 clear hp
 rintro i s ⟨hi, hp⟩
 refine Sm.seq ?_
 refine Sm.seqW ?_
 conv => whnf
 refine Sm.ofW ?_
 conv => whnf
 refine Br.mk (fun hc => ?_) (fun hc => ?_)
 · have hc : i < 2 := by have h : (i : Int) < 2 := of_decide_eq_true hc; omega
   conv => whnf
   refine Sm.seq ?_
   refine Sm.block ?_
   refine Sm.seqW ?_
   conv => whnf
   refine Om.of _ (str_index Tryz.underlying9 (l := ats) (i := i) hc .i64) ?_
   conv => whnf
   have hm := ats_lt i hc
   have hst := setB_step i hc
   generalize (ats[i]'hc).toNat = m at *
   refine Sm.live [0, 2, 4, 5] ?_
   conv => whnf
   refine Sm.seq ?_
   refine Sm.seqW ?_
   conv => whnf
   refine Sm.ofW ?_
   conv => whnf
   refine Br.no (decide_eq_false (by omega)) ?_
   conv => whnf
   refine Sm.ofW ?_
   conv => whnf
   have hix : evIndexAddr Tryz.prog 209 (.pointer (some ⟨p2, 0, none⟩)) (.int .u8 ((m : Nat) : Int)) = some (.pointer (some ⟨p2, 0 + m, none⟩)) := ixA Tryz.underlying209 (by rfl) rfl .u8 (by omega)
   refine Om.of _ (hix) ?_
   conv => whnf
   refine hp.store .d (by rw [natB_len, setB_len]; omega) rfl rfl rfl rfl ?_
   clear hp
   intro s hp _
   rw [Nat.zero_add, natB_set, hst] at hp
   conv => whnf
   refine Sm.ofW ?_
   conv => whnf
   have ei : IntKind.i64.wrap ((i : Int) + 1) = ((i + 1 : Nat) : Int) := by rw [wi64 (by omega) (by omega)]; push_cast; rfl
   exact ⟨i + 1, by (show 2 - (i + 1) < 2 - i); omega, subK_ok (by refine ⟨rfl, rfl, congrArg (fun x => some (Value.int .i64 x)) ei, trivial⟩), by omega, hp⟩
 · have hc : ¬ i < 2 := by have h : ¬ (i : Int) < 2 := of_decide_eq_false hc; omega
   obtain rfl : i = 2 := by omega
   conv => whnf
   refine Sm.seqW ?_
   conv => whnf
   refine hp.loadA (l := natB (setB 2)) .d rfl (sl_all (by rw [natB_len, setB_len]; rfl)) rfl rfl ?_
   conv => whnf
   refine hp.storeW (vs := natB (setB 2)) rfl .d rfl rfl (by rw [natB_len, setB_len]; rfl) (by kernel_rfl) ?_
   clear hp
   intro s hp _
   conv => whnf
   refine Sm.ofW ?_
   conv => whnf
   refine hp.loadA (l := natB (setB 2)) .d rfl (sl_all (by rw [natB_len, setB_len]; rfl)) rfl rfl ?_
   conv => whnf
   exact ⟨hp.fr, rfl⟩
theorem atContains_spec {s : St} {k p e : Nat} (hb : Blk s k p (natB (setB 2)) e) (c : UInt8) : Cw Tryz.prog 163 [.pointer (some ⟨p, 0, none⟩), .int .u8 ((c.toNat : Nat) : Int)] s fun r s' => s' = s ∧ r = .bool (isAt c) := by
 have hc := c.toNat_lt
 refine Cw.enterS Tryz.func163 rfl rfl ?_
 refine Sm.seqW ?_
 conv => whnf
 refine Sm.seqW ?_
 conv => whnf
 have hix : evIndexAddr Tryz.prog 209 (.pointer (some ⟨p, 0, none⟩)) (.int .u8 ((c.toNat : Nat) : Int)) = some (.pointer (some ⟨p, 0 + c.toNat, none⟩)) := ixA Tryz.underlying209 (by rfl) rfl .u8 hc
 refine Om.of _ (hix) ?_
 conv => whnf
 refine Om.of _ (load_cell (v := .bool (isAt c)) Tryz.underlying4 rfl rfl hb.rd (by rw [Nat.zero_add]; exact setB_get hc)) ?_
 conv => whnf
 refine Sm.ofW ?_
 conv => whnf
 exact ⟨rfl, rfl⟩
end

/- Texts: IndexAny, ContainsAny; the amount of a command. No condition but that the text's letters are of one byte. -/
section
variable [Lk]
theorem at_idx (c : UInt8) : decide (ixI (idxL c.toNat ats 0) ≥ 0) = isAt c := by
 unfold idxL idxL idxL isAt
 show decide (ixI (match Nat.beq 44 c.toNat with | true => some 0 | false => match Nat.beq 64 c.toNat with | true => some 1 | false => none) ≥ 0) = _
 by_cases h1 : c.toNat = 44
 · rw [h1]; rfl
 · by_cases h2 : c.toNat = 64
   · rw [h2]; rfl
   · have e1 : Nat.beq 44 c.toNat = false := by cases h : Nat.beq 44 c.toNat with | false => rfl | true => exact absurd (Nat.eq_of_beq_eq_true h).symm h1
     have e2 : Nat.beq 64 c.toNat = false := by cases h : Nat.beq 64 c.toNat with | false => rfl | true => exact absurd (Nat.eq_of_beq_eq_true h).symm h2
     rw [e1, e2, decide_eq_false (show ¬ (c.toNat = 44 ∨ c.toNat = 64) by omega)]; rfl
theorem any_take {l : List UInt8} {i : Nat} (hi : i < l.length) (h : (l.take i).any isAt = false) (h2 : isAt l[i] = false) : (l.take (i + 1)).any isAt = false := by
 rw [List.take_succ_eq_append_getElem hi, List.any_append, h]; simp [h2]
theorem any_at {l : List UInt8} {i : Nat} (hi : i < l.length) (h2 : isAt l[i] = true) : l.any isAt = true := List.any_eq_true.2 ⟨_, List.getElem_mem hi, h2⟩
theorem useSet_spec (s : St) (n : Int) : Cw Tryz.prog 161 [.int .i64 n] s fun r s' => s' = s ∧ r = .bool (decide (n > 8)) := by
 refine Cw.enterS Tryz.func161 rfl rfl ?_
 refine Sm.seqW ?_
 conv => whnf
 refine Sm.seqW ?_
 conv => whnf
 refine Sm.ofW ?_
 conv => whnf
 exact ⟨rfl, rfl⟩
theorem indexAny_spec {z : St} (wf : WF z) (l : List UInt8) (hl : l.length ≤ 100000000000000) (ha : ∀ c ∈ l, c.toNat < 128) :
  Cw Tryz.prog 141 [sv l, sv ats] z fun r s' => K0 z s' ∧ ∃ n : Int, r = .int .i64 n ∧ (0 ≤ n ↔ l.any isAt = true) := by
 have hp : Hp (fun _ => False) z [] [] z := Hp.start _ wf _ (by simp)
 refine Cw.enterS Tryz.func141 rfl rfl ?_
 refine Sm.seqW ?_
 conv => whnf
 refine Sm.live [0, 1] ?_
 conv => whnf
 refine Sm.seq ?_
 refine Sm.seqW ?_
 conv => whnf
 refine Om.of _ (sv_eq ats []) ?_
 conv => whnf
 refine Sm.live [0, 1, 12] ?_
 conv => whnf
 refine Sm.ofW ?_
 conv => whnf
 repeat ((first | refine Br.y1 ?_ | refine Br.n1 ?_); conv => whnf)
 refine Sm.seq ?_
 refine Sm.seqW ?_
 conv => whnf
 refine Sm.live [0, 1, 15] ?_
 conv => whnf
 refine Sm.ofW ?_
 conv => whnf
 repeat ((first | refine Br.y1 ?_ | refine Br.n1 ?_); conv => whnf)
 refine Sm.seq ?_
 refine Sm.seqW ?_
 conv => whnf
 refine (useSet_spec _ _).mono ?_
 rintro _ s1 ⟨h1, rfl⟩
 obtain rfl := h1.symm
 conv => whnf
 refine Sm.live [0, 1, 26] ?_
 conv => whnf
 refine Sm.ofW ?_
 conv => whnf
 have hbl : (bs ⟨l.toArray⟩).length = l.length := rfl
 by_cases h8 : ((l.length : Nat) : Int) > 8
 · refine Br.yes (decide_eq_true h8) ?_
   conv => whnf
   refine hp.call (atSet_spec hp.wf) ?_
   clear hp
   rintro _ s rfl hp _
   conv => whnf
   refine hp.alloc (cs := natB (setB 0)) (e := 1) rfl rfl rfl (by kernel_rfl) rfl ?_
   clear hp
   intro p6 s hp _
   conv => whnf
   refine hp.storeW (vs := natB (setB 2)) rfl .d (by rw [natB_len, natB_len, setB_len, setB_len]) rfl (by rw [natB_len, setB_len]; rfl) (by kernel_rfl) ?_
   clear hp
   intro s hp _
   conv => whnf
   repeat ((first | refine Br.y1 ?_ | refine Br.n1 ?_); conv => whnf)
   refine Lp.of (α := Nat) (fun i => [(0, sv l), (6, .pointer (some ⟨p6, 0, none⟩)), (8, .int .i64 (i : Int))])
    (fun i s' => i ≤ l.length ∧ (l.take i).any isAt = false ∧ Hp (fun _ => False) z [] [blkA p6 p6 (natB (setB 2)) 1] s') (fun i => l.length - i) ?_ 0 (subK_ok (by refine ⟨rfl, rfl, rfl, trivial⟩)) ⟨Nat.zero_le _, rfl, hp.pik (by repeat (first | exact Pik.nil | exact Pik.refl _ | exact Rm.here | apply Rm.there | apply Pik.cons | apply Pik.skip))⟩
   clear hp
   rintro i s ⟨hi, hno, hp⟩
   conv => whnf
   rw [hbl]
   refine Br.mk (fun hc => ?_) (fun hc => ?_)
   · have hc : i < l.length := by have : (i : Int) < ((l.length : Nat) : Int) := of_decide_eq_true hc; omega
     conv => whnf
     refine Om.of _ (str_index Tryz.underlying9 (l := l) (i := i) hc .i64) ?_
     conv => whnf
     refine (atContains_spec (hp.at (show Has (blkA p6 p6 (natB (setB 2)) 1) _ _ by repeat constructor)) l[i]).mono ?_
     rintro _ s1 ⟨h1, rfl⟩
     obtain rfl := h1.symm
     conv => whnf
     cases hA : isAt l[i] with
     | true =>
       repeat ((first | refine Br.y1 ?_ | refine Br.n1 ?_); conv => whnf)
       exact ⟨hp.fr, _, rfl, fun _ => any_at hc hA, fun _ => by omega⟩
     | false =>
       repeat ((first | refine Br.y1 ?_ | refine Br.n1 ?_); conv => whnf)
       exact ⟨i + 1, by (show l.length - (i + 1) < l.length - i); omega, subK_ok (by refine ⟨rfl, rfl, congrArg (fun x => some (Value.int .i64 x)) (show IntKind.i64.wrap ((i : Int) + 1) = ((i + 1 : Nat) : Int) by rw [wi64 (by omega) (by omega)]; omega), trivial⟩), by omega, any_take hc hno hA, hp⟩
   · have hc : i = l.length := by have : ¬ (i : Int) < ((l.length : Nat) : Int) := of_decide_eq_false hc; omega
     subst hc
     rw [List.take_length] at hno
     conv => whnf
     exact ⟨hp.fr, _, rfl, fun h => absurd h (by decide), fun h => by rw [hno] at h; cases h⟩
 · refine Br.no (decide_eq_false h8) ?_
   conv => whnf
   refine Sm.seq ?_
   refine Sm.seqW ?_
   conv => whnf
   refine hp.rangeS Tryz.underlying9 ⟨l.toArray⟩ ?_
   clear hp
   intro b s hp _
   conv => whnf
   refine Sm.live [1, 45] ?_
   conv => whnf
   refine Sm.block ?_
   refine Sm.loop ?_
   refine Lp.ofS (α := Nat) (fun i => [(1, sv ats), (45, .pointer (some ⟨b, 0, none⟩))])
    (fun i s' => i ≤ l.length ∧ (l.take i).any isAt = false ∧ Hp (fun _ => False) z [] [itA b ⟨l.toArray⟩ i] s') (fun i => l.length - i) ?_ 0 (subK_ok (by refine ⟨rfl, rfl, trivial⟩)) ⟨Nat.zero_le _, rfl, hp⟩
   clear hp
   rintro i s ⟨hi, hno, hp⟩
   refine Sm.seqW ?_
   conv => whnf
   by_cases hc : i < l.length
   · have hlt := ha _ (List.getElem_mem hc)
     refine hp.nextS (c := l[i]) .d (show l[i]? = some l[i] from List.getElem?_eq_getElem hc) hlt ?_
     clear hp
     intro s hp
     conv => whnf
     refine Sm.live [1, 45, 46, 47] ?_
     conv => whnf
     refine Sm.seq ?_
     refine Sm.ofW ?_
     conv => whnf
     repeat ((first | refine Br.y1 ?_ | refine Br.n1 ?_); conv => whnf)
     refine Sm.block ?_
     refine Sm.seqW ?_
     conv => whnf
     refine Sm.live [1, 9, 10, 45] ?_
     conv => whnf
     refine Sm.seqW ?_
     conv => whnf
     refine (indexRune_spec _ ats l[i] hlt).mono ?_
     rintro _ s1 ⟨h1, rfl⟩
     obtain rfl := h1.symm
     conv => whnf
     refine Sm.live [1, 9, 45, 53] ?_
     conv => whnf
     refine Sm.ofW ?_
     conv => whnf
     rw [at_idx]
     cases hA : isAt l[i] with
     | true =>
       repeat ((first | refine Br.y1 ?_ | refine Br.n1 ?_); conv => whnf)
       exact ⟨hp.fr, _, rfl, fun _ => any_at hc hA, fun _ => by omega⟩
     | false =>
       repeat ((first | refine Br.y1 ?_ | refine Br.n1 ?_); conv => whnf)
       exact ⟨i + 1, by (show l.length - (i + 1) < l.length - i); omega, subK_ok (by refine ⟨rfl, rfl, trivial⟩), by omega, any_take hc hno hA, hp⟩
   · have hc : i = l.length := by omega
     subst hc
     rw [List.take_length] at hno
     refine hp.nextE .d (show l[l.length]? = none from List.getElem?_eq_none (Nat.le_refl _)) ?_
     conv => whnf
     refine Sm.live [1, 45, 46, 47] ?_
     conv => whnf
     refine Sm.seq ?_
     refine Sm.ofW ?_
     conv => whnf
     repeat ((first | refine Br.y1 ?_ | refine Br.n1 ?_); conv => whnf)
     refine Sm.seqW ?_
     conv => whnf
     refine Sm.live [4] ?_
     conv => whnf
     refine Sm.ofW ?_
     conv => whnf
     exact ⟨hp.fr, _, rfl, fun h => absurd h (by decide), fun h => by rw [hno] at h; cases h⟩
end

/- The amount of a command; is a byte in a text? No condition but that the text's letters are of one byte. -/
section
variable [Lk]
theorem containsAny_spec {z : St} (wf : WF z) (l : List UInt8) (hl : l.length ≤ 100000000000000) (ha : ∀ c ∈ l, c.toNat < 128) :
  Cw Tryz.prog 120 [sv l, sv ats] z fun r s' => K0 z s' ∧ r = .bool (l.any isAt) := by
 have hp : Hp (fun _ => False) z [] [] z := Hp.start _ wf _ (by simp)
 refine Cw.enterS Tryz.func120 rfl rfl ?_
 refine Sm.seqW ?_
 conv => whnf
 refine Sm.live [0, 1] ?_
 conv => whnf
 refine Sm.seqW ?_
 conv => whnf
 refine hp.call (indexAny_spec hp.wf l hl ha) ?_
 clear hp
 rintro _ s ⟨n, rfl, hn⟩ hp _
 conv => whnf
 refine Sm.live [4] ?_
 conv => whnf
 refine Sm.ofW ?_
 conv => whnf
 refine ⟨hp.fr, congrArg Value.bool ?_⟩
 rw [Bool.eq_iff_iff, ← hn, decide_eq_true_iff]
theorem contains1_spec (s : St) (l : List UInt8) (c : UInt8) : Cw Tryz.prog 79 [sv l, sv [c]] s fun r s' => s' = s ∧ r = .bool (cutQ c l) := by
 refine Cw.enterS Tryz.func79 rfl rfl ?_
 refine Sm.seqW ?_
 conv => whnf
 refine Sm.seqW ?_
 conv => whnf
 refine (sindex_spec _ l c).mono ?_
 rintro _ s1 ⟨h1, rfl⟩
 obtain rfl := h1.symm
 conv => whnf
 refine Sm.ofW ?_
 conv => whnf
 refine ⟨rfl, congrArg Value.bool ?_⟩
 unfold cutQ ixI
 cases idxL c.toNat l 0 with
 | none => rfl
 | some i => exact decide_eq_true (Int.natCast_nonneg i)
theorem readL_ne {l : List UInt8} (h : (readL l).2 = 0) : (readL l).1 ≠ [] := by
 unfold readL at h ⊢
 split
 · rename_i g; rw [if_pos g] at h; cases h
 · rename_i g
   rw [if_neg g] at h
   split
   · rename_i g; rw [if_pos g] at h; cases h
   · rename_i g
     rw [if_neg g] at h
     split
     · rename_i g; rw [if_pos g] at h; cases h
     · intro e
       have : splitL 44 l = [] := List.map_eq_nil_iff.1 e
       exact splitL_ne _ _ this
theorem head_at {l : List Ln} (h : 0 < l.length) : l.headD Ln.zero = l[0] := by
 cases l with
 | nil => exact absurd h (by decide)
 | cons x r => rfl
def amtF (l : List UInt8) : Dc × Int := if l.any isAt = true then (Dc.zero, 2) else if (readL (48 :: 58 :: l)).2 ≠ 0 then (Dc.zero, (readL (48 :: 58 :: l)).2) else (((readL (48 :: 58 :: l)).1.headD Ln.zero).amt, 0)
theorem amount_c {z : St} (wf : WF z) (hg : Gs z) (l : List UInt8) (hl : l.length ≤ 1000000000000) (ha : ∀ c ∈ l, c.toNat < 128) :
  Cw Tryz.prog 78 [sv l] z fun r s' => K0 z s' ∧ r = .tuple #[(amtF l).1.val, .int .i64 (amtF l).2] := by
 have hp : Hp (fun _ => False) z [] [] z := Hp.start _ wf _ (by simp)
 refine Cw.enterS Tryz.func78 rfl rfl ?_
 refine Sm.seqW ?_
 conv => whnf
 refine hp.alloc (cs := Dc.zero.cells) (e := 4) rfl rfl rfl rfl rfl ?_
 clear hp
 intro p2 s hp _
 conv => whnf
 refine Sm.live [0, 2] ?_
 conv => whnf
 refine Sm.seq ?_
 refine Sm.seqW ?_
 conv => whnf
 refine hp.call (containsAny_spec hp.wf l (by omega) ha) ?_
 clear hp
 rintro _ s rfl hp _
 conv => whnf
 refine Sm.live [0, 2, 7] ?_
 conv => whnf
 refine Sm.ofW ?_
 conv => whnf
 unfold amtF
 cases hA : l.any isAt with
 | true =>
   rw [if_pos rfl]
   repeat ((first | refine Br.y1 ?_ | refine Br.n1 ?_); conv => whnf)
   refine hp.storeW (vs := Dc.zero.cells) rfl .d csx rfl rfl rfl ?_
   clear hp
   intro s hp _
   conv => whnf
   refine hp.loadA (l := Dc.zero.cells) .d rfl (by rfl) rfl rfl ?_
   conv => whnf
   exact ⟨hp.fr, rfl⟩
 | false =>
   rw [if_neg (by decide)]
   repeat ((first | refine Br.y1 ?_ | refine Br.n1 ?_); conv => whnf)
   refine Sm.seqW ?_
   conv => whnf
   refine Om.of _ (sv_add [48, 58] l (by simp; omega)) ?_
   conv => whnf
   have hll : (48 :: 58 :: l).length ≤ 10000000000000 := by simp only [List.length_cons]; omega
   refine hp.call (eread_spec hp.wf (hg.keep hp.fr) (48 :: 58 :: l) hll) ?_
   intro r s hr h1 k1
   obtain ⟨w, rfl, how_⟩ := hr
   obtain ⟨κ, hp⟩ := hp.on k1 how_
   clear h1 k1 how_
   obtain ⟨aw, cw, rfl⟩ := (hp.slF (κ := κ) (v := w) .d).shape
   have hne := readL_ne (l := 48 :: 58 :: l)
   generalize readL (48 :: 58 :: l) = A at *
   conv => whnf
   refine Sm.live [2, 4, 5] ?_
   conv => whnf
   refine Sm.seq ?_
   refine Sm.seqW ?_
   conv => whnf
   refine Sm.live [2, 4, 5, 16] ?_
   conv => whnf
   refine Sm.ofW ?_
   conv => whnf
   by_cases he : A.2 = 0
   · rw [if_neg (by simpa using he)]
     refine Br.no (by show (!(A.2 == 0)) = false; rw [he]; rfl) ?_
     conv => whnf
     refine Sm.seqW ?_
     conv => whnf
     have hlen : 0 < A.1.length := List.length_pos_iff.2 (hne he)
     obtain ⟨eb, eo, g1, g2⟩ := index_amt (hp.slF (κ := κ) (v := .slice aw A.1.length cw) .d) .i64 (i := 0) hlen
     have hd : A.1.headD Ln.zero = A.1[0] := head_at hlen
     rw [← hd] at g2
     refine Om.of _ (g1) ?_
     conv => whnf
     refine Om.of _ (g2) ?_
     conv => whnf
     refine hp.storeW (vs := (A.1.headD Ln.zero).amt.cells) rfl .d csx rfl rfl rfl ?_
     clear hp
     intro s hp _
     conv => whnf
     refine Sm.live [2, 3] ?_
     conv => whnf
     refine Sm.ofW ?_
     conv => whnf
     refine hp.loadA (l := (A.1.headD Ln.zero).amt.cells) .d rfl (by rfl) rfl rfl ?_
     conv => whnf
     exact ⟨hp.fr, rfl⟩
   · rw [if_pos he]
     refine Br.yes (by show (!(A.2 == 0)) = true; rw [beq_eq_false_iff_ne.2 he]; rfl) ?_
     conv => whnf
     refine hp.storeW (vs := Dc.zero.cells) rfl .d csx rfl rfl rfl ?_
     clear hp
     intro s hp _
     conv => whnf
     refine hp.loadA (l := Dc.zero.cells) .d rfl (by rfl) rfl rfl ?_
     conv => whnf
     exact ⟨hp.fr, rfl⟩
end

/- Commands are read. No condition but that a rate's letters are of one byte. -/
section
variable [Lk]
structure Cm where
 v : Int
 a : Int
 b : Int
 c : Int
 amt : Dc
 ls : List Ln
 txt : List UInt8
def Cm.zero : Cm := ⟨0, 0, 0, 0, Dc.zero, [], []⟩
def Cm.tail (x : Cm) (w : Value) : List Value := [.bool x.amt.neg, .int .u64 ((x.amt.c % w64 : Nat) : Int), .int .u64 ((x.amt.c / w64 : Nat) : Int), .int .i64 x.amt.scale, w, sv x.txt]
def Cm.cells (x : Cm) (w : Value) : List Value := cmC x.v x.a x.b x.c (x.tail w)
def Cm.val (x : Cm) (w : Value) : Value := .agg (x.cells w).toArray
def nil24 : Value := .slice none 0 0
def baseC (k : Int) (l : List Int) : Cm := ⟨k, l.getD 0 0, l.getD 1 0, l.getD 2 0, Dc.zero, [], []⟩
def restC (k : Int) (l : List Int) (r : List UInt8) : Cm × Int :=
 if k = 1 then (if (readL r).2 ≠ 0 then (Cm.zero, (readL r).2) else ({ baseC k l with ls := (readL r).1 }, 0))
 else if k = 5 then (if (amtF r).2 ≠ 0 then (Cm.zero, (amtF r).2) else ({ baseC k l with amt := (amtF r).1 }, 0))
 else if k = 9 then (if r = [] ∨ cutQ 10 r = true then (Cm.zero, 2) else ({ baseC k l with txt := r }, 0))
 else (baseC k l, 0)
def readC (s : List UInt8) : Cm × Int :=
 match numsF (shape (verbN (cut1 32 s))).1.2 (cut2 32 s) (cutQ 32 s) with
 | none => (Cm.zero, 2)
 | some (l, r, q) => if 400 < s.length ∨ verbN (cut1 32 s) = 0 ∨ q ≠ tailF (verbN (cut1 32 s)) then (Cm.zero, 2) else restC (verbN (cut1 32 s)) l r
theorem shape_le (v : Int) : (shape v).1.2 ≤ 3 := by
 unfold shape
 split
 · exact Nat.zero_le _
 · rename_i h
   obtain ⟨k, hk⟩ : ∃ k : Nat, (v - 1).toNat = k := ⟨_, rfl⟩
   rw [hk]
   have h7 : k = 0 ∨ k = 1 ∨ k = 2 ∨ k = 3 ∨ k = 4 ∨ k = 5 ∨ k = 6 ∨ k = 7 ∨ k = 8 ∨ k = 9 ∨ k = 10 ∨ k = 11 ∨ k = 12 := by omega
   rcases h7 with rfl | rfl | rfl | rfl | rfl | rfl | rfl | rfl | rfl | rfl | rfl | rfl | rfl <;> decide
theorem cut2_sub {c : UInt8} {l : List UInt8} : ∀ b ∈ cut2 c l, b ∈ l := by
 unfold cut2
 split
 · intro b hb; exact List.mem_of_mem_drop hb
 · intro b hb; cases hb
theorem nums_sub : ∀ {n : Nat} {r : List UInt8} {q : Bool} {x : List Int × List UInt8 × Bool}, numsF n r q = some x → (∀ b ∈ x.2.1, b ∈ r) ∧ x.2.1.length ≤ r.length
 | 0, r, q, x, h => by
   injection h with h; subst h; exact ⟨fun b hb => hb, Nat.le_refl _⟩
 | n + 1, r, q, x, h => by
   rw [numsF] at h
   split at h
   · cases h
   · cases hq : numsF n (cut2 32 r) (cutQ 32 r) with
     | none => rw [hq] at h; cases h
     | some y =>
       rw [hq] at h
       injection h with h
       subst h
       obtain ⟨h1, h2⟩ := nums_sub hq
       have := cut2_len 32 r
       exact ⟨fun b hb => cut2_sub b (h1 b hb), Nat.le_trans h2 this⟩
theorem verbN_le (w : List UInt8) : verbN w ≤ 13 := by
 have : ∀ n k, verbF w n k ≤ n + k := by
  intro n
  induction n with
  | zero => intro k; simp [verbF]
  | succ n ih =>
    intro k
    unfold verbF
    split
    · omega
    · have := ih (k + 1); omega
 have h2 : ∀ n k, n + k ≤ 14 → verbF w n k ≤ 13 := by
  intro n
  induction n with
  | zero => intro k _; simp [verbF]
  | succ n ih =>
    intro k h
    unfold verbF
    split
    · omega
    · exact ih (k + 1) (by omega)
 exact h2 13 1 (by decide)
theorem cread_spec {z : St} (wf : WF z) (hg : Gs z) (t : List UInt8) (hl : t.length ≤ 100000000000) (ha : verbN (cut1 32 t) = 5 → ∀ c ∈ t, c.toNat < 128) :
  Cw Tryz.prog 31 [sv t] z fun r s' => K0 z s' ∧ ∃ w, r = .tuple #[(readC t).1.val w, .int .i64 (readC t).2] ∧ OwnN z.next s' w 6 (readC t).1.ls.length (lnC (readC t).1.ls) := by
 have hp : Hp (fun _ => False) z [] [] z := Hp.start _ wf _ (by simp)
 have hfail : ∀ s, K0 z s → readC t = (Cm.zero, 2) → (K0 z s ∧ ∃ w, Value.tuple #[Cm.zero.val nil24, .int .i64 2] = .tuple #[(readC t).1.val w, .int .i64 (readC t).2] ∧ OwnN z.next s w 6 (readC t).1.ls.length (lnC (readC t).1.ls)) := by
  intro s hk h
  rw [h]
  exact ⟨hk, nil24, rfl, ⟨.inl ⟨rfl, rfl, rfl⟩⟩⟩
 refine Cw.enterS Tryz.func31 rfl rfl ?_
 refine Sm.seqW ?_
 conv => whnf
 refine hp.alloc (cs := Cm.zero.cells nil24) (e := 10) rfl rfl rfl rfl rfl ?_
 clear hp
 intro p2 s hp _
 conv => whnf
 refine Sm.live [0, 2] ?_
 conv => whnf
 refine Sm.seqW ?_
 conv => whnf
 refine (cut_spec _ t (by omega) 32).mono ?_
 rintro _ s1 ⟨h1, rfl⟩
 obtain rfl := h1.symm
 conv => whnf
 rw [cut_val]
 conv => whnf
 refine Sm.live [0, 2, 4, 5, 6] ?_
 conv => whnf
 refine Sm.seqW ?_
 conv => whnf
 refine hp.alloc (cs := Cm.zero.cells nil24) (e := 10) rfl rfl rfl rfl rfl ?_
 clear hp
 intro p7 s hp _
 conv => whnf
 refine Sm.live [0, 2, 4, 5, 6, 7] ?_
 conv => whnf
 refine Sm.seqW ?_
 conv => whnf
 refine hp.call (verb_spec hp.wf (cut1 32 t)) ?_
 clear hp
 rintro _ s rfl hp _
 conv => whnf
 have hk13 := verbN_le (cut1 32 t)
 have hrd : readC t = (match numsF (shape (verbN (cut1 32 t))).1.2 (cut2 32 t) (cutQ 32 t) with
  | none => (Cm.zero, 2)
  | some (l, r, q) => if 400 < t.length ∨ verbN (cut1 32 t) = 0 ∨ q ≠ tailF (verbN (cut1 32 t)) then (Cm.zero, 2) else restC (verbN (cut1 32 t)) l r) := rfl
 generalize verbN (cut1 32 t) = k at *
 have hsl := shape_le k
 refine hp.alloc (cs := shC ([], 0)) (e := 2) rfl rfl rfl rfl rfl ?_
 clear hp
 intro p9 s hp _
 conv => whnf
 refine hp.storeW (vs := shC (shape k).1) rfl .d csx rfl rfl rfl ?_
 clear hp
 intro s hp _
 conv => whnf
 refine Sm.live [0, 2, 5, 6, 7, 8, 9] ?_
 conv => whnf
 refine Sm.seqW ?_
 conv => whnf
 refine hp.store (v := .int .i64 (k : Int)) (off := 0) .d (by decide) rfl rfl rfl rfl ?_
 clear hp
 intro s hp _
 replace hp : Hp (fun _ => False) z [] [blkA p7 p7 (cmC k 0 0 0 (Cm.zero.tail nil24)) 10, blkA p9 p9 (shC (shape k).1) 2, blkA p2 p2 (Cm.zero.cells nil24) 10] s := hp.pik (by repeat (first | exact Pik.nil | exact Pik.refl _ | exact Rm.here | apply Rm.there | apply Pik.cons | apply Pik.skip))
 conv => whnf
 refine Sm.live [0, 2, 5, 6, 7, 8, 9] ?_
 conv => whnf
 refine Sm.seqW ?_
 conv => whnf
 refine hp.load (v := .int .i64 ((shape k).1.2 : Int)) .d (by rfl) rfl rfl rfl ?_
 conv => whnf
 have hl2 := cut2_len 32 t
 refine numbers_spec hp hg rfl .d (cut2 32 t) (by omega) (cutQ 32 t) hsl ?_
 clear hp
 intro a b c s hp hx
 have hbl : (bs ⟨t.toArray⟩).length = t.length := rfl
 cases hn : numsF (shape k).1.2 (cut2 32 t) (cutQ 32 t) with
 | none =>
   rw [hn] at hrd
   have hrd : readC t = (Cm.zero, 2) := hrd
   conv => whnf
   refine Sm.live [0, 2, 5, 6, 7, 8, 10] ?_
   conv => whnf
   refine Sm.seq ?_
   refine Sm.seqC (fun e' L' s' => e' = .normal ∧ s' = s ∧ Sub [(2, .pointer (some ⟨p2, 0, none⟩)), (50, .bool true)] L') ?_ ?_
   · conv => whnf
     rw [hbl]
     cases q1 : decide (((t.length : Nat) : Int) > 400) with
     | true =>
       repeat (first | (refine Br.yes q1 ?_; conv => whnf) | ((first | refine Br.y1 ?_ | refine Br.n1 ?_); conv => whnf))
       exact ⟨rfl, rfl, subK_ok ⟨rfl, rfl, trivial⟩⟩
     | false =>
       repeat (first | (refine Br.no q1 ?_; conv => whnf) | ((first | refine Br.y1 ?_ | refine Br.n1 ?_); conv => whnf))
       cases q2 : ((k : Int) == 0) with
       | true =>
         repeat (first | (refine Br.yes q2 ?_; conv => whnf) | ((first | refine Br.y1 ?_ | refine Br.n1 ?_); conv => whnf))
         exact ⟨rfl, rfl, subK_ok ⟨rfl, rfl, trivial⟩⟩
       | false =>
         repeat (first | (refine Br.no q2 ?_; conv => whnf) | ((first | refine Br.y1 ?_ | refine Br.n1 ?_); conv => whnf))
         exact ⟨rfl, rfl, subK_ok ⟨rfl, rfl, trivial⟩⟩
   rintro e' L' s' ⟨rfl, h1, hs⟩
   obtain rfl := h1.symm
   refine Sm.weak _ hs ?_
   clear hs
   refine Sm.ofW ?_
   conv => whnf
   repeat ((first | refine Br.y1 ?_ | refine Br.n1 ?_); conv => whnf)
   refine hp.storeW (vs := Cm.zero.cells nil24) rfl .d csx rfl rfl rfl ?_
   clear hp
   intro s hp _
   conv => whnf
   refine hp.loadA (l := Cm.zero.cells nil24) .d rfl (by rfl) rfl rfl ?_
   conv => whnf
   exact ⟨hfail _ hp.fr hrd⟩
 | some x =>
   obtain ⟨l, r, q⟩ := x
   rw [hn] at hrd
   have hrd : readC t = if 400 < t.length ∨ k = 0 ∨ q ≠ tailF k then (Cm.zero, 2) else restC k l r := hrd
   obtain ⟨rfl, rfl, rfl⟩ := hx _ hn
   obtain ⟨hsub, hrl⟩ := nums_sub hn
   simp only at hsub hrl hp
   conv => whnf
   refine Sm.live [0, 2, 5, 6, 7, 8, 10] ?_
   conv => whnf
   refine Sm.seq ?_
   refine Sm.seqC (fun e' L' s' => e' = .normal ∧ s' = s ∧ Sub [(2, .pointer (some ⟨p2, 0, none⟩)), (5, sv r), (7, .pointer (some ⟨p7, 0, none⟩)), (8, .int .i64 (k : Int)), (50, .bool (decide (400 < t.length ∨ k = 0 ∨ q ≠ tailF k)))] L') ?_ ?_
   · conv => whnf
     rw [hbl]
     by_cases g1 : 400 < t.length
     · have q1 : decide (((t.length : Nat) : Int) > 400) = true := decide_eq_true (by omega)
       repeat (first | (refine Br.yes q1 ?_; conv => whnf) | ((first | refine Br.y1 ?_ | refine Br.n1 ?_); conv => whnf))
       exact ⟨rfl, rfl, subK_ok ⟨rfl, rfl, rfl, rfl, congrArg (fun x => some (Value.bool x)) (decide_eq_true (.inl g1)).symm, trivial⟩⟩
     · have q1 : decide (((t.length : Nat) : Int) > 400) = false := decide_eq_false (by omega)
       repeat (first | (refine Br.no q1 ?_; conv => whnf) | ((first | refine Br.y1 ?_ | refine Br.n1 ?_); conv => whnf))
       by_cases g2 : k = 0
       · have q2 : ((k : Int) == 0) = true := beq_iff_eq.2 (by omega)
         repeat (first | (refine Br.no q1 ?_; conv => whnf) | (refine Br.yes q2 ?_; conv => whnf) | ((first | refine Br.y1 ?_ | refine Br.n1 ?_); conv => whnf))
         exact ⟨rfl, rfl, subK_ok ⟨rfl, rfl, rfl, rfl, congrArg (fun x => some (Value.bool x)) (decide_eq_true (.inr (.inl g2))).symm, trivial⟩⟩
       · have q2 : ((k : Int) == 0) = false := beq_eq_false_iff_ne.2 (by omega)
         repeat (first | (refine Br.no q1 ?_; conv => whnf) | (refine Br.no q2 ?_; conv => whnf) | ((first | refine Br.y1 ?_ | refine Br.n1 ?_); conv => whnf))
         refine (tailed_spec _ (k : Int)).mono ?_
         rintro _ s1 ⟨h1, rfl⟩
         obtain rfl := h1.symm
         conv => whnf
         repeat (first | (refine Br.no q1 ?_; conv => whnf) | (refine Br.no q2 ?_; conv => whnf) | ((first | refine Br.y1 ?_ | refine Br.n1 ?_); conv => whnf))
         refine Om.of (.bool (!(q == tailF k))) (by cases q <;> cases tailF k <;> rfl) ?_
         conv => whnf
         repeat (first | (refine Br.no q1 ?_; conv => whnf) | (refine Br.no q2 ?_; conv => whnf) | ((first | refine Br.y1 ?_ | refine Br.n1 ?_); conv => whnf))
         exact ⟨rfl, rfl, subK_ok ⟨rfl, rfl, rfl, rfl, congrArg (fun x => some (Value.bool x)) (by rw [Bool.eq_iff_iff]; simp [g1, g2]), trivial⟩⟩
   rintro e' L' s' ⟨rfl, h1, hs⟩
   obtain rfl := h1.symm
   refine Sm.weak _ hs ?_
   clear hs
   refine Sm.ofW ?_
   conv => whnf
   by_cases hbad : 400 < t.length ∨ k = 0 ∨ q ≠ tailF k
   · rw [if_pos hbad] at hrd
     refine Br.yes (decide_eq_true hbad) ?_
     conv => whnf
     refine hp.storeW (vs := Cm.zero.cells nil24) rfl .d csx rfl rfl rfl ?_
     clear hp
     intro s hp _
     conv => whnf
     refine hp.loadA (l := Cm.zero.cells nil24) .d rfl (by rfl) rfl rfl ?_
     conv => whnf
     exact ⟨hfail _ hp.fr hrd⟩
   · rw [if_neg hbad] at hrd
     refine Br.no (decide_eq_false hbad) ?_
     conv => whnf
     refine Sm.seqW ?_
     conv => whnf
     refine Sm.live [2, 5, 7, 8, 11] ?_
     conv => whnf
     have hka : 0 ≤ (k : Int) := by omega
     refine Sm.seq (Sm.mono (Q := fun e' L' s' => e' = .normal ∧ ∃ κ w y, ∃ er : Int, Hp (fun _ => False) z [] [blkA p7 p7 (Cm.cells y w) 10, onA κ w 6 y.ls.length (lnC y.ls), blkA p2 p2 (Cm.zero.cells nil24) 10] s' ∧ restC k l r = (if er ≠ 0 then (Cm.zero, er) else (y, 0)) ∧ Sub [(2, .pointer (some ⟨p2, 0, none⟩)), (7, .pointer (some ⟨p7, 0, none⟩)), (11, .int .i64 er)] L') ?_ ?_)
     · refine Sm.seqW ?_
       conv => whnf
       refine Sm.live [2, 5, 7, 11, 52] ?_
       conv => whnf
       refine Sm.block ?_
       refine Sm.seqW ?_
       conv => whnf
       refine Sm.live [2, 5, 7, 11, 52, 53] ?_
       conv => whnf
       refine Sm.ofW ?_
       conv => whnf
       unfold restC
       by_cases k1 : (k : Int) = 1
       · rw [if_pos k1]
         refine Br.yes (beq_iff_eq.2 k1) ?_
         conv => whnf
         refine hp.call (eread_spec hp.wf (hg.keep hp.fr) r (by omega)) ?_
         intro r1 s hr h1 k1
         obtain ⟨w, rfl, how_⟩ := hr
         obtain ⟨κ, hp⟩ := hp.on k1 how_
         clear h1 k1 how_
         obtain ⟨aw, cw, rfl⟩ := (hp.slF (κ := κ) (v := w) .d).shape
         conv => whnf
         refine hp.store (v := .slice aw (readL r).1.length cw) (off := 8) .d (by show 8 < 10; decide) rfl rfl rfl rfl ?_
         clear hp
         intro s hp _
         conv => whnf
         refine ⟨rfl, κ, .slice aw (readL r).1.length cw, { baseC k l with ls := (readL r).1 }, (readL r).2, ?_, ?_, subK_ok ⟨rfl, rfl, rfl, trivial⟩⟩
         · refine Hp.pik (F := _) (show Hp (fun _ => False) z [] (blkA p7 p7 (Cm.cells { baseC k l with ls := (readL r).1 } (.slice aw (readL r).1.length cw)) 10 :: _) s from hp) (by repeat (first | exact Pik.nil | exact Pik.refl _ | exact Rm.here | apply Rm.there | apply Pik.cons | apply Pik.skip))
         · split <;> rfl
       · rw [if_neg k1]
         refine Br.no (beq_eq_false_iff_ne.2 k1) ?_
         conv => whnf
         by_cases k5 : (k : Int) = 5
         · rw [if_pos k5]
           refine Br.yes (beq_iff_eq.2 k5) ?_
           conv => whnf
           refine hp.call (amount_c hp.wf (hg.keep hp.fr) r (by omega) (fun b hb => ha (by omega) b (cut2_sub b (hsub b hb)))) ?_
           clear hp
           rintro _ s rfl hp _
           conv => whnf
           refine hp.storeA (off := 4) (vs := (amtF r).1.cells) rfl .d (by show 4 + 4 ≤ 10; decide) rfl rfl rfl ?_
           clear hp
           intro s hp _
           conv => whnf
           refine ⟨rfl, none, nil24, { baseC k l with amt := (amtF r).1 }, (amtF r).2, ?_, ?_, subK_ok ⟨rfl, rfl, rfl, trivial⟩⟩
           · refine Hp.pik (F := _) (Hp.nilA (show Hp (fun _ => False) z [] (blkA p7 p7 (Cm.cells { baseC k l with amt := (amtF r).1 } nil24) 10 :: _) s from hp) 6) (by repeat (first | exact Pik.nil | exact Pik.refl _ | exact Rm.here | apply Rm.there | apply Pik.cons | apply Pik.skip))
           · split <;> rfl
         · rw [if_neg k5]
           refine Br.no (beq_eq_false_iff_ne.2 k5) ?_
           conv => whnf
           by_cases k9 : (k : Int) = 9
           · rw [if_pos k9]
             refine Br.yes (beq_iff_eq.2 k9) ?_
             conv => whnf
             refine hp.store (v := sv r) (off := 9) .d (by show 9 < 10; decide) rfl rfl rfl rfl ?_
             clear hp
             intro s hp _
             conv => whnf
             have hp2 : Hp (fun _ => False) z [] [blkA p7 p7 (Cm.cells { baseC k l with txt := r } nil24) 10, onA none nil24 6 0 [], blkA p2 p2 (Cm.zero.cells nil24) 10] s := Hp.pik (F := _) (Hp.nilA (show Hp (fun _ => False) z [] (blkA p7 p7 (Cm.cells { baseC k l with txt := r } nil24) 10 :: _) s from hp) 6) (by repeat (first | exact Pik.nil | exact Pik.refl _ | exact Rm.here | apply Rm.there | apply Pik.cons | apply Pik.skip))
             refine Om.of _ (sv_eq r []) ?_
             conv => whnf
             by_cases hr0 : r = []
             · have q0 : (r == ([] : List UInt8)) = true := beq_iff_eq.2 hr0
               repeat (first | (refine Br.yes q0 ?_; conv => whnf) | ((first | refine Br.y1 ?_ | refine Br.n1 ?_); conv => whnf))
               rw [if_pos (.inl hr0)]
               exact ⟨rfl, none, nil24, { baseC k l with txt := r }, 2, hp2, rfl, subK_ok ⟨rfl, rfl, rfl, trivial⟩⟩
             · have q0 : (r == ([] : List UInt8)) = false := beq_eq_false_iff_ne.2 hr0
               repeat (first | (refine Br.no q0 ?_; conv => whnf) | ((first | refine Br.y1 ?_ | refine Br.n1 ?_); conv => whnf))
               refine (contains1_spec _ r 10).mono ?_
               rintro _ s1 ⟨h1, rfl⟩
               obtain rfl := h1.symm
               conv => whnf
               cases hq : cutQ 10 r with
               | true =>
                 repeat (first | (refine Br.no q0 ?_; conv => whnf) | ((first | refine Br.y1 ?_ | refine Br.n1 ?_); conv => whnf))
                 rw [if_pos (.inr rfl)]
                 exact ⟨rfl, none, nil24, { baseC k l with txt := r }, 2, hp2, rfl, subK_ok ⟨rfl, rfl, rfl, trivial⟩⟩
               | false =>
                 repeat (first | (refine Br.no q0 ?_; conv => whnf) | ((first | refine Br.y1 ?_ | refine Br.n1 ?_); conv => whnf))
                 rw [if_neg (fun h => h.elim hr0 (by decide))]
                 exact ⟨rfl, none, nil24, { baseC k l with txt := r }, 0, hp2, rfl, subK_ok ⟨rfl, rfl, rfl, trivial⟩⟩
           · rw [if_neg k9]
             refine Br.no (beq_eq_false_iff_ne.2 k9) ?_
             conv => whnf
             refine ⟨rfl, none, nil24, baseC k l, 0, ?_, rfl, subK_ok ⟨rfl, rfl, rfl, trivial⟩⟩
             refine Hp.pik (F := _) (Hp.nilA (show Hp (fun _ => False) z [] (blkA p7 p7 (Cm.cells (baseC k l) nil24) 10 :: _) s from hp) 6) (by repeat (first | exact Pik.nil | exact Pik.refl _ | exact Rm.here | apply Rm.there | apply Pik.cons | apply Pik.skip))
     clear hp
     rintro e' L' s ⟨rfl, κ, w, y, er, hp, he, hs⟩
     refine Sm.weak _ hs ?_
     clear hs
     refine Sm.seq ?_
     refine Sm.seqW ?_
     conv => whnf
     refine Sm.live [2, 7, 11, 80] ?_
     conv => whnf
     refine Sm.ofW ?_
     conv => whnf
     by_cases h0 : er = 0
     · subst h0
       refine Br.no (by rfl) ?_
       conv => whnf
       refine Sm.seqW ?_
       conv => whnf
       obtain ⟨aw, cw, rfl⟩ := (hp.slF (κ := κ) (v := w) .d).shape
       refine hp.loadA (l := y.cells (.slice aw y.ls.length cw)) .d rfl (by rfl) rfl rfl ?_
       conv => whnf
       refine hp.storeW (vs := y.cells (.slice aw y.ls.length cw)) rfl .d csx rfl rfl rfl ?_
       clear hp
       intro s hp _
       conv => whnf
       refine Sm.live [2, 3] ?_
       conv => whnf
       refine Sm.ofW ?_
       conv => whnf
       refine hp.loadA (l := y.cells (.slice aw y.ls.length cw)) .d rfl (by rfl) rfl rfl ?_
       conv => whnf
       rw [hrd, he]
       exact ⟨hp.fr, _, rfl, hp.out .d⟩
     · refine Br.yes (by show (!(er == 0)) = true; rw [beq_eq_false_iff_ne.2 h0]; rfl) ?_
       conv => whnf
       refine hp.storeW (vs := Cm.zero.cells nil24) rfl .d csx rfl rfl rfl ?_
       clear hp
       intro s hp _
       conv => whnf
       refine hp.loadA (l := Cm.zero.cells nil24) .d rfl (by rfl) rfl rfl ?_
       conv => whnf
       rw [hrd, he, if_pos h0]
       exact ⟨hp.fr, nil24, rfl, ⟨.inl ⟨rfl, rfl, rfl⟩⟩⟩
end

/- Commands: are two the same? What changes something. No condition. -/
section
variable [Lk]
theorem slEq_spec {z : St} (wf : WF z) {κ κ' : Option Nat} {v w : Value} {a b : List Ln} (hv : Sln z κ v a) (hw : Sln z κ' w b) (ha : a.length ≤ 1000) :
  Cw Tryz.prog 122 [v, w] z fun r s' => K0 z s' ∧ r = .bool (decide (a = b)) := by
 obtain ⟨a1, c1, rfl⟩ := hv.shape
 obtain ⟨a2, c2, rfl⟩ := hw.shape
 have hp : Hp (fun _ => False) z [slA κ (.slice a1 a.length c1) 6 a.length (lnC a), slA κ' (.slice a2 b.length c2) 6 b.length (lnC b)] [] z := Hp.start _ wf _ (by simp; exact ⟨hv, hw⟩)
 refine Cw.enterS Tryz.func122 rfl rfl ?_
 refine Sm.seqW ?_
 conv => whnf
 refine Sm.live [0, 1] ?_
 conv => whnf
 refine Sm.seq ?_
 refine Sm.seqW ?_
 conv => whnf
 refine Sm.live [0, 1, 10] ?_
 conv => whnf
 refine Sm.ofW ?_
 conv => whnf
 by_cases hl : a.length = b.length
 · refine Br.no (by show (!(((a.length : Nat) : Int) == ((b.length : Nat) : Int))) = false; rw [beq_iff_eq.2 (by omega)]; rfl) ?_
   conv => whnf
   refine Sm.seq ?_
   refine Sm.seqW ?_
   conv => whnf
   refine Sm.live [0, 1, 12, 13] ?_
   conv => whnf
   refine Sm.block ?_
   refine Sm.loop ?_
   refine Lp.ofS (α := Nat) (fun i => [(0, .slice a1 a.length c1), (1, .slice a2 b.length c2), (12, .int .i64 ((a.length : Nat) : Int)), (13, .int .i64 (i : Int))])
    (fun i s' => i ≤ a.length ∧ a.take i = b.take i ∧ Hp (fun _ => False) z [slA κ (.slice a1 a.length c1) 6 a.length (lnC a), slA κ' (.slice a2 b.length c2) 6 b.length (lnC b)] [] s') (fun i => a.length - i) ?_ 0 (subK_ok (by refine ⟨rfl, rfl, rfl, rfl, trivial⟩)) ⟨Nat.zero_le _, rfl, hp⟩
   clear hp
   rintro i s ⟨hi, heq, hp⟩
   refine Sm.seqW ?_
   conv => whnf
   refine Sm.live [0, 1, 12, 13, 14] ?_
   conv => whnf
   refine Sm.seq ?_
   refine Sm.ofW ?_
   conv => whnf
   refine Br.mk (fun hc => ?_) (fun hc => ?_)
   · have hc : i < a.length := by have : (i : Int) < ((a.length : Nat) : Int) := of_decide_eq_true hc; omega
     obtain ⟨e1, f1, f2⟩ := index_ln (hp.slR (κ := κ) (v := .slice a1 a.length c1) .here) .i64 hc
     obtain ⟨e2, f3, f4⟩ := index_ln (hp.slR (κ := κ') (v := .slice a2 b.length c2) (.there .here)) .i64 (show i < b.length by omega)
     conv => whnf
     refine Sm.seq ?_
     refine Sm.block ?_
     refine Sm.seqW ?_
     conv => whnf
     refine Sm.live [0, 1, 5, 12, 13] ?_
     conv => whnf
     refine Sm.seqW ?_
     conv => whnf
     refine ⟨[0, 0, 3, 7, 0, 0, 48, 112, 255], by decide +kernel, by decide +kernel, ?_⟩
     conv => whnf
     refine Om.of _ (f1) ?_
     conv => whnf
     refine Om.of _ (f2) ?_
     conv => whnf
     refine Om.of _ (f3) ?_
     conv => whnf
     refine Om.of _ (f4) ?_
     conv => whnf
     refine Om.of _ (ln_ne a[i] (b[i]'(by omega)) _) ?_
     conv => whnf
     refine Sm.live [0, 1, 12, 13, 24] ?_
     conv => whnf
     refine Sm.ofW ?_
     conv => whnf
     have t1 : a.take (i + 1) = a.take i ++ [a[i]] := List.take_succ_eq_append_getElem hc
     have t2 : b.take (i + 1) = b.take i ++ [b[i]'(by omega)] := List.take_succ_eq_append_getElem (by omega)
     cases hq : eqLn a[i] (b[i]'(by omega)) with
     | true =>
       repeat ((first | refine Br.y1 ?_ | refine Br.n1 ?_); conv => whnf)
       refine Sm.ofW ?_
       conv => whnf
       exact ⟨i + 1, by (show a.length - (i + 1) < a.length - i); omega, subK_ok (by refine ⟨rfl, rfl, rfl, congrArg (fun x => some (Value.int .i64 x)) (show IntKind.i64.wrap ((i : Int) + 1) = ((i + 1 : Nat) : Int) by rw [wi64 (by omega) (by omega)]; omega), trivial⟩), by omega, by rw [t1, t2, heq, eqLn_iff.1 hq], hp⟩
     | false =>
       repeat ((first | refine Br.y1 ?_ | refine Br.n1 ?_); conv => whnf)
       refine ⟨hp.fr, congrArg Value.bool (decide_eq_false (fun h => ?_)).symm⟩
       have : a[i] = b[i]'(by omega) := by simp [h]
       rw [eqLn_iff.2 this] at hq; cases hq
   · have hc : i = a.length := by have : ¬ (i : Int) < ((a.length : Nat) : Int) := of_decide_eq_false hc; omega
     subst hc
     rw [List.take_length, hl, List.take_length] at heq
     conv => whnf
     refine Sm.seqW ?_
     conv => whnf
     refine Sm.live [4] ?_
     conv => whnf
     refine Sm.ofW ?_
     conv => whnf
     exact ⟨hp.fr, congrArg Value.bool (decide_eq_true heq).symm⟩
 · refine Br.yes (by show (!(((a.length : Nat) : Int) == ((b.length : Nat) : Int))) = true; rw [beq_eq_false_iff_ne.2 (by omega)]; rfl) ?_
   conv => whnf
   exact ⟨hp.fr, congrArg Value.bool (decide_eq_false (fun h => hl (by rw [h]))).symm⟩
def chgF (v : Int) : Bool := (decide (v ≥ 1) && decide (v ≤ 5)) || v == 10
theorem changes_spec (s : St) (v : Int) : Cw Tryz.prog 33 [.int .i64 v] s fun r s' => s' = s ∧ r = .bool (chgF v) := by
 refine Cw.enterS Tryz.func33 rfl rfl ?_
 refine Sm.seqW ?_
 conv => whnf
 refine Sm.live [0] ?_
 conv => whnf
 refine Sm.ofW ?_
 conv => whnf
 unfold chgF
 by_cases h1 : v ≥ 1
 · have q1 : decide (v ≥ 1) = true := decide_eq_true h1
   repeat (first | (refine Br.yes q1 ?_; conv => whnf) | ((first | refine Br.y1 ?_ | refine Br.n1 ?_); conv => whnf))
   by_cases h2 : v ≤ 5
   · have q2 : decide (v ≤ 5) = true := decide_eq_true h2
     repeat (first | (refine Br.yes q1 ?_; conv => whnf) | (refine Br.yes q2 ?_; conv => whnf) | ((first | refine Br.y1 ?_ | refine Br.n1 ?_); conv => whnf))
     exact ⟨rfl, congrArg Value.bool (by rw [q1, q2]; rfl)⟩
   · have q2 : decide (v ≤ 5) = false := decide_eq_false h2
     repeat (first | (refine Br.yes q1 ?_; conv => whnf) | (refine Br.no q2 ?_; conv => whnf) | ((first | refine Br.y1 ?_ | refine Br.n1 ?_); conv => whnf))
     exact ⟨rfl, congrArg Value.bool (by rw [q1, q2]; rfl)⟩
 · have q1 : decide (v ≥ 1) = false := decide_eq_false h1
   repeat (first | (refine Br.no q1 ?_; conv => whnf) | ((first | refine Br.y1 ?_ | refine Br.n1 ?_); conv => whnf))
   exact ⟨rfl, congrArg Value.bool (by rw [q1]; rfl)⟩
def eqC (x y : Cm) : Bool := x.v == y.v && (x.a == y.a && (x.b == y.b && (x.c == y.c && (eqD x.amt y.amt && (x.txt == y.txt && decide (x.ls = y.ls))))))
theorem csame_spec {z : St} (wf : WF z) {x y : Cm} (hx : x.amt.c < w128) (hy : y.amt.c < w128) {κ κ' : Option Nat} {v w : Value} (hv : Sln z κ v x.ls) (hw : Sln z κ' w y.ls) (hl : x.ls.length ≤ 1000) :
  Cw Tryz.prog 81 [x.val v, y.val w] z fun r s' => K0 z s' ∧ r = .bool (eqC x y) := by
 obtain ⟨a1, c1, rfl⟩ := hv.shape
 obtain ⟨a2, c2, rfl⟩ := hw.shape
 have hp : Hp (fun _ => False) z [slA κ (.slice a1 x.ls.length c1) 6 x.ls.length (lnC x.ls), slA κ' (.slice a2 y.ls.length c2) 6 y.ls.length (lnC y.ls)] [] z := Hp.start _ wf _ (by simp; exact ⟨hv, hw⟩)
 refine Cw.enterS Tryz.func81 rfl rfl ?_
 refine Sm.seqW ?_
 conv => whnf
 refine hp.var (cs := x.cells (.slice a1 x.ls.length c1)) (e := 10) rfl rfl ?_
 clear hp
 intro p2 s hp _
 conv => whnf
 refine hp.var (cs := y.cells (.slice a2 y.ls.length c2)) (e := 10) rfl rfl ?_
 clear hp
 intro p3 s hp _
 conv => whnf
 refine Sm.live [2, 3] ?_
 conv => whnf
 refine Sm.seqW ?_
 conv => whnf
 refine hp.load (v := .int .i64 x.v) .d (by rfl) rfl rfl rfl ?_
 conv => whnf
 refine hp.load (v := .int .i64 y.v) .d (by rfl) rfl rfl rfl ?_
 conv => whnf
 cases qv : x.v == y.v with
 | false =>
   repeat (first | (refine Br.no qv ?_; conv => whnf) | ((first | refine Br.y1 ?_ | refine Br.n1 ?_); conv => whnf))
   refine Sm.live [4] ?_
   conv => whnf
   refine Sm.ofW ?_
   conv => whnf
   exact ⟨hp.fr, congrArg Value.bool (by unfold eqC; rw [qv]; rfl)⟩
 | true =>
 repeat (first | (refine Br.yes qv ?_; conv => whnf) | ((first | refine Br.y1 ?_ | refine Br.n1 ?_); conv => whnf))
 refine hp.load (v := .int .i64 x.a) .d (by rfl) rfl rfl rfl ?_
 conv => whnf
 repeat (first | (refine Br.yes qv ?_; conv => whnf) | ((first | refine Br.y1 ?_ | refine Br.n1 ?_); conv => whnf))
 refine hp.load (v := .int .i64 y.a) .d (by rfl) rfl rfl rfl ?_
 conv => whnf
 repeat (first | (refine Br.yes qv ?_; conv => whnf) | ((first | refine Br.y1 ?_ | refine Br.n1 ?_); conv => whnf))
 cases qa : x.a == y.a with
 | false =>
   repeat (first | (refine Br.yes qv ?_; conv => whnf) | (refine Br.no qa ?_; conv => whnf) | ((first | refine Br.y1 ?_ | refine Br.n1 ?_); conv => whnf))
   refine Sm.live [4] ?_
   conv => whnf
   refine Sm.ofW ?_
   conv => whnf
   exact ⟨hp.fr, congrArg Value.bool (by unfold eqC; rw [qv, qa]; rfl)⟩
 | true =>
 repeat (first | (refine Br.yes qv ?_; conv => whnf) | (refine Br.yes qa ?_; conv => whnf) | ((first | refine Br.y1 ?_ | refine Br.n1 ?_); conv => whnf))
 refine hp.load (v := .int .i64 x.b) .d (by rfl) rfl rfl rfl ?_
 conv => whnf
 repeat (first | (refine Br.yes qv ?_; conv => whnf) | (refine Br.yes qa ?_; conv => whnf) | ((first | refine Br.y1 ?_ | refine Br.n1 ?_); conv => whnf))
 refine hp.load (v := .int .i64 y.b) .d (by rfl) rfl rfl rfl ?_
 conv => whnf
 repeat (first | (refine Br.yes qv ?_; conv => whnf) | (refine Br.yes qa ?_; conv => whnf) | ((first | refine Br.y1 ?_ | refine Br.n1 ?_); conv => whnf))
 cases qb : x.b == y.b with
 | false =>
   repeat (first | (refine Br.yes qv ?_; conv => whnf) | (refine Br.yes qa ?_; conv => whnf) | (refine Br.no qb ?_; conv => whnf) | ((first | refine Br.y1 ?_ | refine Br.n1 ?_); conv => whnf))
   refine Sm.live [4] ?_
   conv => whnf
   refine Sm.ofW ?_
   conv => whnf
   exact ⟨hp.fr, congrArg Value.bool (by unfold eqC; rw [qv, qa, qb]; rfl)⟩
 | true =>
 repeat (first | (refine Br.yes qv ?_; conv => whnf) | (refine Br.yes qa ?_; conv => whnf) | (refine Br.yes qb ?_; conv => whnf) | ((first | refine Br.y1 ?_ | refine Br.n1 ?_); conv => whnf))
 refine hp.load (v := .int .i64 x.c) .d (by rfl) rfl rfl rfl ?_
 conv => whnf
 repeat (first | (refine Br.yes qv ?_; conv => whnf) | (refine Br.yes qa ?_; conv => whnf) | (refine Br.yes qb ?_; conv => whnf) | ((first | refine Br.y1 ?_ | refine Br.n1 ?_); conv => whnf))
 refine hp.load (v := .int .i64 y.c) .d (by rfl) rfl rfl rfl ?_
 conv => whnf
 repeat (first | (refine Br.yes qv ?_; conv => whnf) | (refine Br.yes qa ?_; conv => whnf) | (refine Br.yes qb ?_; conv => whnf) | ((first | refine Br.y1 ?_ | refine Br.n1 ?_); conv => whnf))
 cases qc : x.c == y.c with
 | false =>
   repeat (first | (refine Br.yes qv ?_; conv => whnf) | (refine Br.yes qa ?_; conv => whnf) | (refine Br.yes qb ?_; conv => whnf) | (refine Br.no qc ?_; conv => whnf) | ((first | refine Br.y1 ?_ | refine Br.n1 ?_); conv => whnf))
   refine Sm.live [4] ?_
   conv => whnf
   refine Sm.ofW ?_
   conv => whnf
   exact ⟨hp.fr, congrArg Value.bool (by unfold eqC; rw [qv, qa, qb, qc]; rfl)⟩
 | true =>
 repeat (first | (refine Br.yes qv ?_; conv => whnf) | (refine Br.yes qa ?_; conv => whnf) | (refine Br.yes qb ?_; conv => whnf) | (refine Br.yes qc ?_; conv => whnf) | ((first | refine Br.y1 ?_ | refine Br.n1 ?_); conv => whnf))
 refine hp.loadA (l := x.amt.cells) .d rfl (by rfl) rfl rfl ?_
 conv => whnf
 repeat (first | (refine Br.yes qv ?_; conv => whnf) | (refine Br.yes qa ?_; conv => whnf) | (refine Br.yes qb ?_; conv => whnf) | (refine Br.yes qc ?_; conv => whnf) | ((first | refine Br.y1 ?_ | refine Br.n1 ?_); conv => whnf))
 refine hp.loadA (l := y.amt.cells) .d rfl (by rfl) rfl rfl ?_
 conv => whnf
 repeat (first | (refine Br.yes qv ?_; conv => whnf) | (refine Br.yes qa ?_; conv => whnf) | (refine Br.yes qb ?_; conv => whnf) | (refine Br.yes qc ?_; conv => whnf) | ((first | refine Br.y1 ?_ | refine Br.n1 ?_); conv => whnf))
 refine Om.of _ (dc_eq x.amt y.amt _) ?_
 conv => whnf
 repeat (first | (refine Br.yes qv ?_; conv => whnf) | (refine Br.yes qa ?_; conv => whnf) | (refine Br.yes qb ?_; conv => whnf) | (refine Br.yes qc ?_; conv => whnf) | ((first | refine Br.y1 ?_ | refine Br.n1 ?_); conv => whnf))
 cases qm : eqD x.amt y.amt with
 | false =>
   repeat (first | (refine Br.yes qv ?_; conv => whnf) | (refine Br.yes qa ?_; conv => whnf) | (refine Br.yes qb ?_; conv => whnf) | (refine Br.yes qc ?_; conv => whnf) | (refine Br.no qm ?_; conv => whnf) | ((first | refine Br.y1 ?_ | refine Br.n1 ?_); conv => whnf))
   refine Sm.live [4] ?_
   conv => whnf
   refine Sm.ofW ?_
   conv => whnf
   exact ⟨hp.fr, congrArg Value.bool (by unfold eqC; rw [qv, qa, qb, qc, qm]; rfl)⟩
 | true =>
 repeat (first | (refine Br.yes qv ?_; conv => whnf) | (refine Br.yes qa ?_; conv => whnf) | (refine Br.yes qb ?_; conv => whnf) | (refine Br.yes qc ?_; conv => whnf) | (refine Br.yes qm ?_; conv => whnf) | ((first | refine Br.y1 ?_ | refine Br.n1 ?_); conv => whnf))
 refine hp.load (v := sv x.txt) .d (by rfl) rfl rfl rfl ?_
 conv => whnf
 repeat (first | (refine Br.yes qv ?_; conv => whnf) | (refine Br.yes qa ?_; conv => whnf) | (refine Br.yes qb ?_; conv => whnf) | (refine Br.yes qc ?_; conv => whnf) | (refine Br.yes qm ?_; conv => whnf) | ((first | refine Br.y1 ?_ | refine Br.n1 ?_); conv => whnf))
 refine hp.load (v := sv y.txt) .d (by rfl) rfl rfl rfl ?_
 conv => whnf
 repeat (first | (refine Br.yes qv ?_; conv => whnf) | (refine Br.yes qa ?_; conv => whnf) | (refine Br.yes qb ?_; conv => whnf) | (refine Br.yes qc ?_; conv => whnf) | (refine Br.yes qm ?_; conv => whnf) | ((first | refine Br.y1 ?_ | refine Br.n1 ?_); conv => whnf))
 refine Om.of _ (sv_eq x.txt y.txt) ?_
 conv => whnf
 repeat (first | (refine Br.yes qv ?_; conv => whnf) | (refine Br.yes qa ?_; conv => whnf) | (refine Br.yes qb ?_; conv => whnf) | (refine Br.yes qc ?_; conv => whnf) | (refine Br.yes qm ?_; conv => whnf) | ((first | refine Br.y1 ?_ | refine Br.n1 ?_); conv => whnf))
 cases qt : x.txt == y.txt with
 | false =>
   repeat (first | (refine Br.yes qv ?_; conv => whnf) | (refine Br.yes qa ?_; conv => whnf) | (refine Br.yes qb ?_; conv => whnf) | (refine Br.yes qc ?_; conv => whnf) | (refine Br.yes qm ?_; conv => whnf) | (refine Br.no qt ?_; conv => whnf) | ((first | refine Br.y1 ?_ | refine Br.n1 ?_); conv => whnf))
   refine Sm.live [4] ?_
   conv => whnf
   refine Sm.ofW ?_
   conv => whnf
   exact ⟨hp.fr, congrArg Value.bool (by unfold eqC; rw [qv, qa, qb, qc, qm, qt]; rfl)⟩
 | true =>
 repeat (first | (refine Br.yes qv ?_; conv => whnf) | (refine Br.yes qa ?_; conv => whnf) | (refine Br.yes qb ?_; conv => whnf) | (refine Br.yes qc ?_; conv => whnf) | (refine Br.yes qm ?_; conv => whnf) | (refine Br.yes qt ?_; conv => whnf) | ((first | refine Br.y1 ?_ | refine Br.n1 ?_); conv => whnf))
 refine hp.load (v := .slice a1 x.ls.length c1) .d (by rfl) rfl rfl rfl ?_
 conv => whnf
 repeat (first | (refine Br.yes qv ?_; conv => whnf) | (refine Br.yes qa ?_; conv => whnf) | (refine Br.yes qb ?_; conv => whnf) | (refine Br.yes qc ?_; conv => whnf) | (refine Br.yes qm ?_; conv => whnf) | (refine Br.yes qt ?_; conv => whnf) | ((first | refine Br.y1 ?_ | refine Br.n1 ?_); conv => whnf))
 refine hp.load (v := .slice a2 y.ls.length c2) .d (by rfl) rfl rfl rfl ?_
 conv => whnf
 repeat (first | (refine Br.yes qv ?_; conv => whnf) | (refine Br.yes qa ?_; conv => whnf) | (refine Br.yes qb ?_; conv => whnf) | (refine Br.yes qc ?_; conv => whnf) | (refine Br.yes qm ?_; conv => whnf) | (refine Br.yes qt ?_; conv => whnf) | ((first | refine Br.y1 ?_ | refine Br.n1 ?_); conv => whnf))
 refine hp.call (slEq_spec hp.wf (hp.slR (κ := κ) (v := .slice a1 x.ls.length c1) .here) (hp.slR (κ := κ') (v := .slice a2 y.ls.length c2) (.there .here)) hl) ?_
 clear hp
 rintro _ s rfl hp _
 conv => whnf
 repeat (first | (refine Br.yes qv ?_; conv => whnf) | (refine Br.yes qa ?_; conv => whnf) | (refine Br.yes qb ?_; conv => whnf) | (refine Br.yes qc ?_; conv => whnf) | (refine Br.yes qm ?_; conv => whnf) | (refine Br.yes qt ?_; conv => whnf) | ((first | refine Br.y1 ?_ | refine Br.n1 ?_); conv => whnf))
 refine Sm.live [4] ?_
 conv => whnf
 refine Sm.ofW ?_
 conv => whnf
 exact ⟨hp.fr, congrArg Value.bool (by unfold eqC; rw [qv, qa, qb, qc, qm, qt]; rfl)⟩
end

/- Numbers of three digits, or below nothing, as text: what is said is only that it is a short text. No condition but that a listed table is as it is laid. -/
section
variable [Lk]
def len10 (u : Nat) : Nat := if u < 1 then 0 else if u < 2 then 1 else if u < 4 then 2 else if u < 8 then 3 else if u < 16 then 4 else if u < 32 then 5 else if u < 64 then 6 else if u < 128 then 7 else if u < 256 then 8 else if u < 512 then 9 else 10
def len8T : List UInt8 := (List.range 256).map fun n => UInt8.ofNat (len10 n)
theorem len8T_len : len8T.length = 256 := by simp [len8T]
theorem len8T_at : ∀ n, (h : n < len8T.length) → (len8T[n]'h).toNat = len10 n := by decide +kernel
theorem len10_shift : ∀ u, u < 1024 → 256 ≤ u → 8 + len10 (u / 256) = len10 u := by decide +kernel
theorem len10_le : ∀ u, u < 1024 → len10 u ≤ 10 := by decide +kernel
theorem bool2_spec (s : St) (b : Bool) : Cw Tryz.prog 179 [.bool b] s fun r s' => s' = s ∧ r = .int .i64 (if b = true then 1 else 0) := by
 refine Cw.enterS Tryz.func179 rfl rfl ?_
 refine Sm.seqW ?_
 conv => whnf
 refine Sm.seq ?_
 refine Sm.seqW ?_
 conv => whnf
 refine Sm.ofW ?_
 conv => whnf
 cases b with
 | true =>
   repeat ((first | refine Br.y1 ?_ | refine Br.n1 ?_); conv => whnf)
   exact ⟨rfl, rfl⟩
 | false =>
   repeat ((first | refine Br.y1 ?_ | refine Br.n1 ?_); conv => whnf)
   refine Sm.seqW ?_
   conv => whnf
   refine Sm.ofW ?_
   conv => whnf
   exact ⟨rfl, rfl⟩
theorem len64_spec (s : St) {u : Nat} (hu : u < 1024) : Cw Tryz.prog 178 [.int .u64 (u : Int)] s fun r s' => s' = s ∧ r = .int .i64 (len10 u : Int) := by
 refine Cw.enterS Tryz.func178 rfl rfl ?_
 refine Sm.seqW ?_
 conv => whnf
 refine Sm.live [0, 2] ?_
 conv => whnf
 have q1 : decide ((u : Int) ≥ 4294967296) = false := decide_eq_false (by omega)
 have q2 : decide ((u : Int) ≥ 65536) = false := decide_eq_false (by omega)
 refine Sm.seq ?_
 refine Sm.seqW ?_
 conv => whnf
 refine Sm.live [0, 2, 4] ?_
 conv => whnf
 refine Sm.ofW ?_
 conv => whnf
 refine Br.no q1 ?_
 conv => whnf
 refine Sm.seq ?_
 refine Sm.seqW ?_
 conv => whnf
 refine Sm.live [0, 2, 8] ?_
 conv => whnf
 refine Sm.ofW ?_
 conv => whnf
 refine Br.no q2 ?_
 conv => whnf
 refine Sm.seq ?_
 refine Sm.seqW ?_
 conv => whnf
 refine Sm.live [0, 2, 14] ?_
 conv => whnf
 refine Sm.ofW ?_
 conv => whnf
 by_cases h3 : u < 256
 · have q3 : decide ((u : Int) ≥ 256) = false := decide_eq_false (by omega)
   refine Br.no q3 ?_
   conv => whnf
   refine Sm.seqW ?_
   conv => whnf
   have e1 : IntKind.u8.wrap (u : Int) = (u : Int) := by show (u : Int) % 256 = _; omega
   rw [e1]
   have hl := len8T_len
   refine Om.of _ (str_index Tryz.underlying9 (l := len8T) (i := u) (by omega) .u8) ?_
   conv => whnf
   rw [len8T_at u (by omega)]
   have hk := len10_le u hu
   generalize len10 u = m at *
   refine Sm.ofW ?_
   conv => whnf
   refine ⟨rfl, congrArg (Value.int .i64) ?_⟩
   show IntKind.i64.wrap (0 + IntKind.i64.wrap (m : Int)) = _
   rw [wi64 (n := (m : Int)) (by omega) (by omega), wi64 (by omega) (by omega)]; omega
 · have q3 : decide ((u : Int) ≥ 256) = true := decide_eq_true (by omega)
   refine Br.yes q3 ?_
   conv => whnf
   refine Om.of _ (shr_u64k (n := u) (k := 8) (by omega) (by decide)) ?_
   conv => whnf
   refine Sm.seqW ?_
   conv => whnf
   have e1 : IntKind.u8.wrap ((u / 2 ^ 8 : Nat) : Int) = ((u / 256 : Nat) : Int) := by show ((u / 256 : Nat) : Int) % 256 = _; omega
   rw [e1]
   have hl := len8T_len
   refine Om.of _ (str_index Tryz.underlying9 (l := len8T) (i := u / 256) (by omega) .u8) ?_
   conv => whnf
   rw [len8T_at (u / 256) (by omega)]
   have hs := len10_shift u hu (by omega)
   have hk := len10_le u hu
   rw [← hs]
   generalize len10 (u / 256) = m at *
   refine Sm.ofW ?_
   conv => whnf
   refine ⟨rfl, congrArg (Value.int .i64) ?_⟩
   show IntKind.i64.wrap (IntKind.i64.wrap (0 + 8) + IntKind.i64.wrap (m : Int)) = _
   rw [wi64 (n := (m : Int)) (by omega) (by omega), wi64 (n := 0 + 8) (by decide) (by decide), wi64 (by omega) (by omega)]; omega
theorem log10_spec (s : St) {m : Nat} (hm : m ≤ 10) : Cw Tryz.prog 177 [.int .i64 (m : Int)] s fun r s' => s' = s ∧ r = .int .i64 ((m * 78913 / 262144 : Nat) : Int) := by
 refine Cw.enterS Tryz.func177 rfl rfl ?_
 refine Sm.seqW ?_
 conv => whnf
 refine Sm.seqW ?_
 conv => whnf
 have h11 : m = 0 ∨ m = 1 ∨ m = 2 ∨ m = 3 ∨ m = 4 ∨ m = 5 ∨ m = 6 ∨ m = 7 ∨ m = 8 ∨ m = 9 ∨ m = 10 := by omega
 refine Om.of (.int .i64 ((m * 78913 / 262144 : Nat) : Int)) (by rcases h11 with rfl | rfl | rfl | rfl | rfl | rfl | rfl | rfl | rfl | rfl | rfl <;> kernel_rfl) ?_
 conv => whnf
 refine Sm.ofW ?_
 conv => whnf
 exact ⟨rfl, rfl⟩
def p10C : List Value := (List.range 20).map fun i => .int .u64 ((10 ^ i : Nat) : Int)
structure Gt (s : St) : Prop where
 ex : ∃ i, Lk.gl 1 = some i ∧ Ro s i p10C 1
theorem Gt.keep {X : Nat → Prop} {s s' : St} (h : Gt s) (k : Kp X s s') : Gt s' := by
 obtain ⟨i, h1, h2⟩ := h.ex
 exact ⟨i, h1, k.ro _ _ _ h2⟩
def dig3 (u : Nat) : Nat := if u < 10 then 1 else if u < 100 then 2 else 3
theorem dig3_at : ∀ u, u < 1000 → 1 ≤ u → len10 u * 78913 / 262144 ≤ 3 ∧ len10 u * 78913 / 262144 + (if 10 ^ (len10 u * 78913 / 262144) ≤ u then 1 else 0) = dig3 u := by decide +kernel
theorem numDigits_spec {s : St} (hg : Gt s) {u : Nat} (hu1 : 1 ≤ u) (hu : u < 1000) : Cw Tryz.prog 151 [.int .u64 (u : Int)] s fun r s' => s' = s ∧ r = .int .i64 (dig3 u : Int) := by
 obtain ⟨i, hi, hro⟩ := hg.ex
 refine Cw.enterS Tryz.func151 rfl rfl ?_
 refine Sm.seqW ?_
 conv => whnf
 refine Sm.seqW ?_
 conv => whnf
 refine (len64_spec _ (show u < 1024 by omega)).mono ?_
 rintro _ s1 ⟨h1, rfl⟩
 obtain rfl := h1.symm
 conv => whnf
 have hk := len10_le u (by omega)
 refine (log10_spec _ hk).mono ?_
 rintro _ s1 ⟨h1, rfl⟩
 obtain rfl := h1.symm
 conv => whnf
 obtain ⟨d1, d2⟩ := dig3_at u hu hu1
 generalize len10 u * 78913 / 262144 = m at *
 refine Sm.live [0, 3] ?_
 conv => whnf
 refine Sm.seqW ?_
 conv => whnf
 rw [opl_gl hi]
 conv => whnf
 have hix : evIndexAddr Tryz.prog 223 (.pointer (some ⟨i, 0, none⟩)) (.int .i64 (m : Int)) = some (.pointer (some ⟨i, 0 + m, none⟩)) := ixA Tryz.underlying223 (by rfl) rfl .i64 (by omega)
 refine Om.of _ (hix) ?_
 conv => whnf
 refine Om.of _ (load_cell (v := .int .u64 ((10 ^ m : Nat) : Int)) Tryz.underlying26 rfl rfl hro.rd (by rw [Nat.zero_add]; unfold p10C; rw [List.getElem?_map, List.getElem?_range (by omega)]; rfl)) ?_
 conv => whnf
 refine (bool2_spec _ _).mono ?_
 rintro _ s1 ⟨h1, rfl⟩
 obtain rfl := h1.symm
 conv => whnf
 refine Sm.ofW ?_
 conv => whnf
 refine ⟨rfl, congrArg (Value.int .i64) ?_⟩
 rw [← d2]
 have e : (if decide ((u : Int) ≥ ((10 ^ m : Nat) : Int)) = true then (1 : Int) else 0) = ((if 10 ^ m ≤ u then 1 else 0 : Nat) : Int) := by
  by_cases h : 10 ^ m ≤ u
  · rw [if_pos h, if_pos (decide_eq_true (by exact_mod_cast h))]; rfl
  · rw [if_neg h, if_neg (by rw [decide_eq_false (by exact_mod_cast h)]; decide)]; rfl
 rw [e]
 have hb : (if 10 ^ m ≤ u then 1 else 0 : Nat) ≤ 1 := by split <;> omega
 rw [wi64 (by omega) (by omega)]
 omega
end

/- From the two listed errors to the first state. No condition. -/
section
variable [Lk]
theorem var_heap {P : Program} {W : World} {n : String} {g : Nat} {v : Value} (hg : P.globalNamed n = some g) (h : W.var? P n = some #[v]) : ∃ t fr, W.heap[g]? = some (.cells #[v] t fr) := by
 unfold World.var? at h
 rw [hg] at h
 simp only [Option.bind_some] at h
 split at h
 · rename_i cs t fr hh
   injection h with h
   subst h
   exact ⟨t, fr, hh⟩
 · cases h
def gsB : List (List Value × Nat) := [([.chan none], 1), ([.chan none], 1)]
end

/- From slices among the arguments, and the two listed errors, to the first state. No condition. -/
section
variable [Lk]
end

/- From the two listed errors and a listed table, and slices among the arguments, to the first state. No condition. -/
section
variable [Lk]
theorem var_heapC {P : Program} {W : World} {n : String} {g : Nat} {cs : Array Value} (hg : P.globalNamed n = some g) (h : W.var? P n = some cs) : ∃ t fr, W.heap[g]? = some (.cells cs t fr) := by
 unfold World.var? at h
 rw [hg] at h
 simp only [Option.bind_some] at h
 split at h
 · rename_i cs t fr hh
   injection h with h
   subst h
   exact ⟨t, fr, hh⟩
 · cases h
theorem tab_heap {n0 : String} {ns : List Int} {r : List (String × DataW Unit)} {W : World} {g : Nat} (hlen : ns.length = 20) (h : laidMet Tryz.prog ((n0, .agg (ns.map fun n => .lit (.int .u64 n))) :: r) W)
  (hg : Tryz.prog.globalNamed n0 = some g) (ht : (Tryz.prog.globals[g]?).map (·.type) = some 223) :
  ∃ C t fr, W.heap[g]? = some (.cells C t fr) ∧ ∀ j, j < 20 → C[j]? = some (.int .u64 (ns.getD j 0)) := by
 obtain ⟨ps, ⟨g1, t, cs, fuel, p, q, hg1, ht1, hv, hd, _, _⟩, _, _⟩ := h
 obtain rfl := Option.some.inj (hg.symm.trans hg1)
 obtain rfl := Option.some.inj (ht.symm.trans ht1)
 obtain ⟨xs, m, _, ex, _, hl, hel⟩ := DataW.trod_array Tryz.underlying223 hd
 have c5 : Tryz.prog.cellsOf 26 = 1 := by kernel_rfl
 obtain ⟨t2, fr, hh⟩ := var_heapC hg hv
 refine ⟨cs, t2, fr, hh, fun r hr => ?_⟩
 have hE := hel r hr
 rw [c5, Nat.mul_one, List.getElem?_eq_getElem (by omega)] at hE
 obtain ⟨z, e1, e2, _⟩ := DataW.trod_int Tryz.underlying26 hE
 have e3 : (xs.map (·.1)) = ns.map fun n => .lit (.int .u64 n) := (DataW.agg.inj (Prod.mk.inj ex).1).symm
 have e4 : (xs.map (·.1))[r]? = (ns.map fun n => (DataW.lit (.int .u64 n) : DataW Unit))[r]? := by rw [e3]
 rw [List.getElem?_map, List.getElem?_map, List.getElem?_eq_getElem (by omega : r < xs.length), List.getElem?_eq_getElem (by omega : r < ns.length), e2] at e4
 have hz : z = ns.getD r 0 := by
  simp only [Option.map_some, Option.some.injEq, DataW.lit.injEq, Lit.int.injEq, true_and] at e4
  rw [e4, List.getD, List.getElem?_eq_getElem (by omega : r < ns.length)]; rfl
 have : cs.toList[r]? = some (.int .u64 z) := by
  have h0 : ((cs.toList.drop r).take 1)[0]? = some (.int .u64 z) := by rw [e1]; rfl
  simpa using h0
 rw [← hz]
 simpa using this
def tens : List Int := (List.range 20).map fun i => ((10 ^ i : Nat) : Int)
theorem p10_get : ∀ j, j < 20 → p10C[j]? = some (.int .u64 (tens.getD j 0)) := by
 intro j hj
 unfold p10C tens
 rw [List.getElem?_map, List.getElem?_range hj, List.getD, List.getElem?_map, List.getElem?_range hj]; rfl
abbrev lkT (k a b c : Nat) : Lk := ⟨fun g => if g = a then some k else if g = b then some (k + 1) else if g = c then some (k + 2) else none⟩
def gsT : List (List Value × Nat) := gsB ++ [(p10C, 1)]
def betaT (k : Nat) (vs : List (Value × Nat)) (a b c : Nat) : B := fun i => if i = k then some ⟨a, 0, 1, 1⟩ else if i = k + 1 then some ⟨b, 0, 1, 1⟩ else if i = k + 2 then some ⟨c, 0, 1, 20⟩ else betaOf vs i
theorem hglT (k : Nat) (vs : List (Value × Nat)) (a b c : Nat) : ∀ g i, (lkT k a b c).gl g = some i → ∃ e l, betaT k vs a b c i = some ⟨g, 0, e, l⟩ := by
 intro g i h
 unfold lkT at h
 simp only at h
 split at h
 · rename_i e
   injection h with h; subst h e
   exact ⟨1, 1, by unfold betaT; rw [if_pos rfl]⟩
 · split at h
   · rename_i _ e
     injection h with h; subst h e
     exact ⟨1, 1, by unfold betaT; rw [if_neg (by omega), if_pos rfl]⟩
   · split at h
     · rename_i _ _ e
       injection h with h; subst h e
       exact ⟨1, 20, by unfold betaT; rw [if_neg (by omega), if_neg (by omega), if_pos rfl]⟩
     · cases h
theorem betaT_ok {W : World} {a b c k : Nat} {vs : List (Value × Nat)} {bs : List (List Value × Nat)} (hk : bs.length = k) (hc : ∀ (i : Nat) (v : Value) (e : Nat), vs[i]? = some (v, e) → ∃ n cs, bs[i]? = some (cs, e) ∧ CArg W v e n cs)
  {ta tb tc td : TypeId} {fa fb : Nat × Nat} {va vb : Value} (ha : W.heap[a]? = some (.cells #[.iface ta va] tc fa)) (hb : W.heap[b]? = some (.cells #[.iface tb vb] td fb))
  {C : Array Value} {te : TypeId} {fe : Nat × Nat} (hcc : W.heap[c]? = some (.cells C te fe)) (hcv : ∀ j, j < 20 → C[j]? = p10C[j]?) :
  ∀ i bi, betaT k vs a b c i = some bi → ∃ cs e C t fr, (bs ++ gsT)[i]? = some (cs, e) ∧ bi.esz = e ∧ W.heap[bi.blk]? = some (.cells C t fr) ∧ ∀ (j : Nat) (v : Value), cs[j]? = some v → ∃ v', C[j + bi.sh]? = some v' ∧ VR (betaT k vs a b c) v v' := by
 have one : ∀ (x : Value) (j : Nat) (v : Value), ([Value.chan none] : List Value)[j]? = some v → ∀ {t : TypeId}, ∃ v', (#[Value.iface t x] : Array Value)[j + 0]? = some v' ∧ VR (betaT k vs a b c) v v' := by
  intro x j v h t
  cases j with
  | zero => injection h with h; subst h; exact ⟨_, rfl, .junkI _ _⟩
  | succ j => cases h
 intro i bi h
 unfold betaT at h
 split at h
 · rename_i e
   injection h with h; subst h e
   exact ⟨_, _, _, _, _, by rw [List.getElem?_append_right (by omega), ← hk, Nat.sub_self]; rfl, rfl, ha, fun j v hv => one _ j v hv⟩
 · split at h
   · rename_i _ e
     injection h with h; subst h e
     exact ⟨_, _, _, _, _, by rw [List.getElem?_append_right (by omega), ← hk, show bs.length + 1 - bs.length = 1 by omega]; rfl, rfl, hb, fun j v hv => one _ j v hv⟩
   · split at h
     · rename_i _ _ e
       injection h with h; subst h e
       refine ⟨_, _, _, _, _, by rw [List.getElem?_append_right (by omega), ← hk, show bs.length + 2 - bs.length = 2 by omega]; rfl, rfl, hcc, fun j v hv => ?_⟩
       have hj : j < 20 := by
        rcases Nat.lt_or_ge j 20 with g | g
        · exact g
        · rw [List.getElem?_eq_none (by show p10C.length ≤ j; simp [p10C]; exact g)] at hv; cases hv
       refine ⟨v, by rw [Nat.add_zero, hcv j hj]; exact hv, ?_⟩
       unfold p10C at hv
       rw [List.getElem?_map, List.getElem?_range hj] at hv
       injection hv with hv
       subst hv
       exact .int _ _
     · unfold betaOf at h
       cases hv : vs[i]? with
       | none => rw [hv] at h; cases h
       | some p =>
         obtain ⟨v, e⟩ := p
         rw [hv] at h
         simp only [Option.bind_some] at h
         obtain ⟨n, cs, h1, h2⟩ := hc i v e hv
         rcases h2.ex with ⟨rfl, _, _⟩ | ⟨a, cap, C, t, fr, rfl, h3, h4, h5, h6, h7⟩
         · cases h
         · simp only [biOf] at h
           injection h with h
           subst h
           have hlt : i < bs.length := by
            rcases Nat.lt_or_ge i bs.length with g | g
            · exact g
            · rw [List.getElem?_eq_none g] at h1; cases h1
           refine ⟨cs, e, C, t, fr, by rw [List.getElem?_append_left hlt]; exact h1, rfl, h6, fun i v hv => ⟨v, h7 i v hv, ?_⟩⟩
           exact closedV_VR _ 6 _ (h2.closed v (List.mem_of_getElem? hv))
end

/- Numbers of three digits, or below nothing, as text: formatBase10, Itoa. No condition but that a listed table is as it is laid. -/
section
variable [Lk]
theorem quo_u32 {P : Program} {t : TypeId} {cst : Bool} {n m : Nat} (hm : 0 < m) (hn : n < 4294967296) : evBin P .quo t cst (.int .u32 (n : Int)) (.int .u32 (m : Int)) = some (.int .u32 ((n / m : Nat) : Int)) := by
 show (match decide ((m : Int) = 0) with
  | true => none
  | false => some (Value.int .u32 (IntKind.u32.wrap ((n : Int).tdiv (m : Int))))) = _
 rw [decide_eq_false (by omega)]
 have e : ((n : Int).tdiv (m : Int)) = ((n / m : Nat) : Int) := rfl
 have hd : n / m ≤ n := Nat.div_le_self _ _
 rw [e]
 generalize n / m = x at *
 have : IntKind.u32.wrap (x : Int) = (x : Int) := by show (x : Int) % 4294967296 = _; omega
 simp only [this]
theorem rem_u32 {P : Program} {t : TypeId} {cst : Bool} {n m : Nat} (hm : 0 < m) : evBin P .rem t cst (.int .u32 (n : Int)) (.int .u32 (m : Int)) = some (.int .u32 ((n % m : Nat) : Int)) := by
 show (match decide ((m : Int) = 0) with
  | true => none
  | false => some (Value.int .u32 ((n : Int).tmod (m : Int)))) = _
 rw [decide_eq_false (by omega)]; rfl
theorem byteVals_put (L : List UInt8) (k : Nat) (c : UInt8) : (byteVals L).set k (.int .u8 ((c.toNat : Nat) : Int)) = byteVals (L.set k c) := by
 simp [byteVals, List.map_set]
section
variable {X : Nat → Prop} {s0 s s' : St} {R F G H : List At} {p : Nat}
theorem fb10_spec (hp : Hp X s0 R F s) {L : List UInt8} (hL : L.length = 24) (h1 : Rm (blkA p p (byteVals L) 1) F G) {u : Nat} (hu1 : 1 ≤ u) (hu : u < 1000) {K : Value → St → Prop}
  (hK : ∀ r L' s', L'.length = 24 → Hp X s0 R (blkA p p (byteVals L') 1 :: G) s' → K r s') :
  Cw Tryz.prog 152 [.slice (some ⟨p, 1, none⟩) (dig3 u) 23, .int .u64 (u : Int)] s K := by
 replace hp : Hp X s0 R (blkA p p (byteVals L) 1 :: G) s := hp.pik (.cons h1 (.refl _))
 clear h1
 have hd3 : dig3 u ≤ 3 := by unfold dig3; split; omega; split <;> omega
 refine Cw.enterS Tryz.func152 rfl rfl ?_
 refine Sm.seqW ?_
 conv => whnf
 refine Sm.live [0, 1, 4] ?_
 conv => whnf
 refine Sm.seq ?_
 refine Sm.block ?_
 refine Sm.loop ?_
 refine Lp.ofS (α := Unit) (fun _ => [(0, .slice (some ⟨p, 1, none⟩) (dig3 u) 23), (1, .int .u64 (u : Int)), (4, .int .i64 ((dig3 u : Nat) : Int))])
  (fun _ s' => Hp X s0 R (blkA p p (byteVals L) 1 :: G) s') (fun _ => 0) ?_ () (subK_ok (by refine ⟨rfl, rfl, rfl, trivial⟩)) hp
 clear hp
 rintro ⟨⟩ s hp
 refine Sm.seq ?_
 refine Sm.seqW ?_
 conv => whnf
 refine Sm.live [0, 1, 4, 20] ?_
 conv => whnf
 refine Sm.ofW ?_
 conv => whnf
 refine Br.no (decide_eq_false (by omega)) ?_
 conv => whnf
 refine Sm.seqW ?_
 conv => whnf
 have e1 : IntKind.u32.wrap (u : Int) = (u : Int) := by show (u : Int) % 4294967296 = _; omega
 rw [e1]
 refine Sm.live [0, 4, 12] ?_
 conv => whnf
 refine Sm.seq ?_
 refine Sm.seqW ?_
 conv => whnf
 refine Sm.live [0, 4, 12, 99] ?_
 conv => whnf
 refine Sm.ofW ?_
 conv => whnf
 refine Br.no (decide_eq_false (by omega)) ?_
 conv => whnf
 refine Sm.seq ?_
 refine Sm.seqW ?_
 conv => whnf
 refine Sm.live [0, 4, 12, 139] ?_
 conv => whnf
 refine Sm.ofW ?_
 conv => whnf
 by_cases hu2 : u < 10
 · have hd : dig3 u = 1 := by unfold dig3; rw [if_pos hu2]
   rw [hd]
   refine Br.no (by rfl) ?_
   conv => whnf
   refine Sm.seqW ?_
   conv => whnf
   refine Sm.live [0, 12, 161] ?_
   conv => whnf
   refine Sm.ofW ?_
   conv => whnf
   repeat ((first | refine Br.y1 ?_ | refine Br.n1 ?_); conv => whnf)
   have e3 : IntKind.u8.wrap (IntKind.u32.wrap (48 + (u : Int))) = (((UInt8.ofNat (48 + u)).toNat : Nat) : Int) := by
    show (48 + (u : Int)) % 4294967296 % 256 = _
    have : (UInt8.ofNat (48 + u)).toNat = 48 + u := by simp; omega
    rw [this]; omega
   rw [e3]
   refine Om.of _ (idx_at (P := Tryz.prog) UB (b := p) (off := 1) (c := 23) (n := 1) (i := 0) .i64 (by decide)) ?_
   conv => whnf
   refine hp.store (v := .int .u8 (((UInt8.ofNat (48 + u)).toNat : Nat) : Int)) (off := 1 + 0 * 1) .d (by show 1 < (byteVals L).length; simp [byteVals, hL]) rfl rfl rfl rfl ?_
   clear hp
   intro s hp _
   rw [byteVals_put] at hp
   conv => whnf
   exact ⟨hK _ _ _ (by rw [List.length_set]; exact hL) hp⟩
 · have hd2 : 2 ≤ dig3 u := by unfold dig3; rw [if_neg hu2]; split <;> omega
   have hd : dig3 u = 2 ∨ dig3 u = 3 := by omega
   have hdu : dig3 u = 3 → u / 100 < 10 := fun _ => by omega
   generalize dig3 u = d at *
   refine Br.yes (decide_eq_true (by omega)) ?_
   conv => whnf
   refine Om.of _ (rem_u32 (n := u) (m := 100) (by decide)) ?_
   conv => whnf
   have e2 : IntKind.u32.wrap (((u % 100 : Nat) : Int) * 2) = ((u % 100 * 2 : Nat) : Int) := by show ((u % 100 : Nat) : Int) * 2 % 4294967296 = _; omega
   rw [e2]
   refine Om.of _ (quo_u32 (n := u) (m := 100) (by decide) (by omega)) ?_
   conv => whnf
   refine ⟨[0, 0, 2, 0, 0, 16, 0, 64, 192, 0, 512, 455, 2503, 8191, 16383], by decide +kernel, by decide +kernel, ?_⟩
   conv => whnf
   have e4 : IntKind.i64.wrap ((d : Int) - 1) = ((d - 1 : Nat) : Int) := by rw [wi64 (by omega) (by omega)]; omega
   have e5 : IntKind.i64.wrap ((d : Int) - 2) = ((d - 2 : Nat) : Int) := by rw [wi64 (by omega) (by omega)]; omega
   have e6 : IntKind.u32.wrap (((u % 100 * 2 : Nat) : Int) + 1) = ((u % 100 * 2 + 1 : Nat) : Int) := by show (((u % 100 * 2 : Nat) : Int) + 1) % 4294967296 = _; omega
   rw [e4, e5, e6]
   have hl := tab2_len
   refine Om.of _ (str_index Tryz.underlying9 (l := tab2) (i := u % 100 * 2 + 1) (by omega) .u32) ?_
   conv => whnf
   refine Om.of _ (str_index Tryz.underlying9 (l := tab2) (i := u % 100 * 2) (by omega) .u32) ?_
   conv => whnf
   refine Om.of _ (idx_at (P := Tryz.prog) UB (b := p) (off := 1) (c := 23) (n := d) (i := d - 1) .i64 (by omega)) ?_
   conv => whnf
   refine hp.rst.store (off := 1 + (d - 1) * 1) .d (by rw [show (byteVals L).length = 24 by simp [byteVals, hL]]; omega) rfl rfl rfl rfl ?_
   intro s1 h1 l1
   rw [byteVals_put] at h1
   conv => whnf
   refine hp.dkW h1 l1 ?_
   clear hp h1 l1
   intro s hp
   conv => whnf
   refine Om.of _ (idx_at (P := Tryz.prog) UB (b := p) (off := 1) (c := 23) (n := d) (i := d - 2) .i64 (by omega)) ?_
   conv => whnf
   have hL1 : (L.set (1 + (d - 1) * 1) tab2[u % 100 * 2 + 1]).length = 24 := by rw [List.length_set]; exact hL
   generalize L.set (1 + (d - 1) * 1) tab2[u % 100 * 2 + 1] = L1 at *
   refine hp.rst.store (off := 1 + (d - 2) * 1) .d (by rw [show (byteVals L1).length = 24 by simp [byteVals, hL1]]; omega) rfl rfl rfl rfl ?_
   intro s1 h1 l1
   rw [byteVals_put] at h1
   conv => whnf
   refine hp.dkW h1 l1 ?_
   clear hp h1 l1
   intro s hp
   conv => whnf
   have hL2 : (L1.set (1 + (d - 2) * 1) tab2[u % 100 * 2]).length = 24 := by rw [List.length_set]; exact hL1
   generalize L1.set (1 + (d - 2) * 1) tab2[u % 100 * 2] = L2 at *
   refine Sm.seqW ?_
   conv => whnf
   rw [e5]
   refine Sm.live [0, 12, 161] ?_
   conv => whnf
   refine Sm.ofW ?_
   conv => whnf
   rcases hd with rfl | rfl
   · refine Br.no (by rfl) ?_
     conv => whnf
     exact ⟨hK _ _ _ hL2 hp⟩
   · repeat ((first | refine Br.y1 ?_ | refine Br.n1 ?_); conv => whnf)
     have hx := hdu rfl
     generalize u / 100 = x at *
     have e3 : IntKind.u8.wrap (IntKind.u32.wrap (48 + (x : Int))) = (((UInt8.ofNat (48 + x)).toNat : Nat) : Int) := by
      show (48 + (x : Int)) % 4294967296 % 256 = _
      have : (UInt8.ofNat (48 + x)).toNat = 48 + x := by simp; omega
      rw [this]; omega
     rw [e3]
     refine Om.of _ (idx_at (P := Tryz.prog) UB (b := p) (off := 1) (c := 23) (n := 3) (i := 0) .i64 (by decide)) ?_
     conv => whnf
     refine hp.store (v := .int .u8 (((UInt8.ofNat (48 + x)).toNat : Nat) : Int)) (off := 1 + 0 * 1) .d (by show 1 < (byteVals L2).length; simp [byteVals, hL2]) rfl rfl rfl rfl ?_
     clear hp
     intro s hp _
     rw [byteVals_put] at hp
     conv => whnf
     exact ⟨hK _ _ _ (by rw [List.length_set]; exact hL2) hp⟩
end
end

/- Itoa of numbers of three digits, or below nothing. No condition but that a listed table is as it is laid. -/
section
variable [Lk]
theorem slice_arrE {P : Program} {t n e : Nat} (hu : P.underlying t = some (.array n e)) {j : TypeInfo} (hin : P.info? e = some j) (hj : j.size = 1) {s : St} {k b : Nat} {l : List UInt8} (hb : Blk s k b (byteVals l) 1) (hn : l.length = n) (hn0 : 0 < n)
  {lo hi : Option Nat} (h1 : lo.getD 0 ≤ hi.getD n) (h2 : hi.getD n ≤ n) :
  evSliceMem P t (.pointer (some ⟨b, 0, none⟩)) (bndV .i64 lo) (bndV .i64 hi) none s = some (.slice (some ⟨b, lo.getD 0, none⟩) (hi.getD n - lo.getD 0) (n - lo.getD 0)) := by
 have hbd : bnds n n (bndV .i64 lo) (bndV .i64 hi) none = some (lo.getD 0, hi.getD n, n) := by
  unfold bnds
  cases lo <;> cases hi <;> simp only [bndV, Option.getD_none, Option.getD_some] at h1 h2 ⊢
  · rw [bnd_nat h2]
  · rw [bnd_nat h1]
  · rw [bnd_nat h2]; simp only; rw [bnd_nat h1]
 obtain ⟨base, fl, g1, g2, g3⟩ := hb.ex
 have e1 := hb.esz
 have e2 := hb.rd
 unfold evSliceMem
 rw [hu]
 simp only [hin, e1, e2, hj, Nat.beq_refl, Nat.mul_one, blt_of hn0, byteVals_length, Nat.zero_add, hn, Nat.ble_eq_true_of_le (Nat.le_refl n), g1, hbd]
theorem fmtW_spec {z : St} (wf : WF z) (hg : Gt z) {n : Int} (hn1 : -1000 < n) (hn2 : n < 1000) (hn3 : ¬ (0 ≤ n ∧ n < 100)) :
  Cw Tryz.prog 134 [.int .i64 n, .int .i64 10] z fun r s' => K0 z s' ∧ ∃ w : List UInt8, r = sv w ∧ w.length ≤ 24 := by
 have hp : Hp (fun _ => False) z [] [] z := Hp.start _ wf _ (by simp)
 obtain ⟨u, hu⟩ : ∃ u : Nat, n.natAbs = u := ⟨_, rfl⟩
 have hu1 : 1 ≤ u := by omega
 have hu2 : u < 1000 := by omega
 have hd3 : dig3 u ≤ 3 := by unfold dig3; split; omega; split <;> omega
 refine Cw.enterS Tryz.func134 rfl rfl ?_
 refine Sm.seqW ?_
 conv => whnf
 refine Sm.live [0, 1, 4] ?_
 conv => whnf
 refine Sm.seq ?_
 refine Sm.seqW ?_
 conv => whnf
 refine Sm.ofW ?_
 conv => whnf
 repeat ((first | refine Br.y1 ?_ | refine Br.n1 ?_); conv => whnf)
 by_cases h0 : 0 ≤ n
 · have q1 : decide ((0 : Int) ≤ n) = true := decide_eq_true h0
   have q2 : decide (n < 100) = false := decide_eq_false (by omega)
   have q3 : decide (n < 0) = false := decide_eq_false (by omega)
   repeat (first | (refine Br.yes q1 ?_; conv => whnf) | (refine Br.no q2 ?_; conv => whnf) | ((first | refine Br.y1 ?_ | refine Br.n1 ?_); conv => whnf))
   refine hp.alloc (cs := byteVals (List.replicate 24 0)) (e := 1) rfl rfl rfl rfl rfl ?_
   clear hp
   intro p5 s hp _
   conv => whnf
   repeat (first | (refine Br.no q3 ?_; conv => whnf) | ((first | refine Br.y1 ?_ | refine Br.n1 ?_); conv => whnf))
   have eu : IntKind.u64.wrap n = (u : Int) := by show n % 18446744073709551616 = _; omega
   rw [eu]
   refine (numDigits_spec (hg.keep hp.fr) hu1 hu2).mono ?_
   rintro _ s1 ⟨h1, rfl⟩
   obtain rfl := h1.symm
   conv => whnf
   have e1 : IntKind.i64.wrap (1 + ((dig3 u : Nat) : Int)) = ((dig3 u + 1 : Nat) : Int) := by rw [wi64 (by omega) (by omega)]; omega
   rw [e1]
   refine Om.of _ (slice_arrE (P := Tryz.prog) Tryz.underlying199 (by rfl) rfl (hp.blk (k := p5) (b := p5) .d) (l := List.replicate 24 0) rfl (by decide) (lo := some 1) (hi := some (dig3 u + 1)) (by simp only [Option.getD_some]; omega) (by simp only [Option.getD_some]; omega)) ?_
   conv => whnf
   refine fb10_spec (L := List.replicate 24 0) hp rfl .d hu1 hu2 ?_
   clear hp
   intro r L s hL hp
   conv => whnf
   repeat (first | (refine Br.no q3 ?_; conv => whnf) | ((first | refine Br.y1 ?_ | refine Br.n1 ?_); conv => whnf))
   rw [e1]
   obtain ⟨v1, g1, b1⟩ := slice_arr (P := Tryz.prog) Tryz.underlying199 (by rfl) rfl (hp.blk (k := p5) (b := p5) .d) hL (by decide) (lo := some 1) (hi := some (dig3 u + 1)) (by simp only [Option.getD_some]; omega) (by simp only [Option.getD_some]; omega)
   refine Om.of _ (g1) ?_
   conv => whnf
   refine Om.of _ (string_sl Tryz.underlying59 Tryz.underlying9 Tryz.underlying5 b1) ?_
   conv => whnf
   exact ⟨hp.fr, _, rfl, by rw [List.length_take, List.length_drop]; omega⟩
 · have q1 : decide ((0 : Int) ≤ n) = false := decide_eq_false h0
   have q3 : decide (n < 0) = true := decide_eq_true (by omega)
   repeat (first | (refine Br.no q1 ?_; conv => whnf) | ((first | refine Br.y1 ?_ | refine Br.n1 ?_); conv => whnf))
   refine hp.alloc (cs := byteVals (List.replicate 24 0)) (e := 1) rfl rfl rfl rfl rfl ?_
   clear hp
   intro p5 s hp _
   conv => whnf
   repeat (first | (refine Br.yes q3 ?_; conv => whnf) | ((first | refine Br.y1 ?_ | refine Br.n1 ?_); conv => whnf))
   have eu : IntKind.u64.wrap (0 - (IntKind.u64.wrap n)) = (u : Int) := by show (0 - (n % 18446744073709551616)) % 18446744073709551616 = _; omega
   rw [eu]
   refine (numDigits_spec (hg.keep hp.fr) hu1 hu2).mono ?_
   rintro _ s1 ⟨h1, rfl⟩
   obtain rfl := h1.symm
   conv => whnf
   have e1 : IntKind.i64.wrap (1 + ((dig3 u : Nat) : Int)) = ((dig3 u + 1 : Nat) : Int) := by rw [wi64 (by omega) (by omega)]; omega
   rw [e1]
   refine Om.of _ (slice_arrE (P := Tryz.prog) Tryz.underlying199 (by rfl) rfl (hp.blk (k := p5) (b := p5) .d) (l := List.replicate 24 0) rfl (by decide) (lo := some 1) (hi := some (dig3 u + 1)) (by simp only [Option.getD_some]; omega) (by simp only [Option.getD_some]; omega)) ?_
   conv => whnf
   refine fb10_spec (L := List.replicate 24 0) hp rfl .d hu1 hu2 ?_
   clear hp
   intro r L s hL hp
   conv => whnf
   repeat (first | (refine Br.yes q3 ?_; conv => whnf) | ((first | refine Br.y1 ?_ | refine Br.n1 ?_); conv => whnf))
   refine Om.of _ (ixA (P := Tryz.prog) (t := 199) (b := p5) (off := 0) (i := 0) Tryz.underlying199 (by rfl) rfl .i64 (by decide)) ?_
   conv => whnf
   refine hp.store (v := .int .u8 (((45 : UInt8).toNat : Nat) : Int)) (off := 0 + 0) .d (by show 0 < (byteVals L).length; simp [byteVals, hL]) rfl rfl rfl rfl ?_
   clear hp
   intro s hp _
   rw [byteVals_put] at hp
   have hL2 : (L.set (0 + 0) 45).length = 24 := by rw [List.length_set]; exact hL
   generalize L.set (0 + 0) 45 = L2 at *
   conv => whnf
   rw [e1]
   obtain ⟨v1, g1, b1⟩ := slice_arr (P := Tryz.prog) Tryz.underlying199 (by rfl) rfl (hp.blk (k := p5) (b := p5) .d) hL2 (by decide) (lo := none) (hi := some (dig3 u + 1)) (by simp only [Option.getD_some, Option.getD_none]; omega) (by simp only [Option.getD_some]; omega)
   refine Om.of _ (g1) ?_
   conv => whnf
   refine Om.of _ (string_sl Tryz.underlying59 Tryz.underlying9 Tryz.underlying5 b1) ?_
   conv => whnf
   exact ⟨hp.fr, _, rfl, by rw [List.length_take, List.length_drop]; omega⟩
theorem iitoaW_spec {z : St} (wf : WF z) (hg : Gt z) {n : Int} (hn1 : -1000 < n) (hn2 : n < 1000) (hn3 : ¬ (0 ≤ n ∧ n < 100)) :
  Cw Tryz.prog 107 [.int .i64 n] z fun r s' => K0 z s' ∧ ∃ w : List UInt8, r = sv w ∧ w.length ≤ 24 := by
 have hp : Hp (fun _ => False) z [] [] z := Hp.start _ wf _ (by simp)
 refine Cw.enterS Tryz.func107 rfl rfl ?_
 refine Sm.seqW ?_
 conv => whnf
 refine Sm.seqW ?_
 conv => whnf
 refine hp.call (fmtW_spec hp.wf hg hn1 hn2 hn3) ?_
 clear hp
 rintro _ s ⟨w, rfl, hw⟩ hp _
 conv => whnf
 refine Sm.ofW ?_
 conv => whnf
 exact ⟨hp.fr, w, rfl, hw⟩
theorem itoaW_spec {z : St} (wf : WF z) (hg : Gt z) {n : Int} (hn1 : -1000 < n) (hn2 : n < 1000) (hn3 : ¬ (0 ≤ n ∧ n < 100)) :
  Cw Tryz.prog 62 [.int .i64 n] z fun r s' => K0 z s' ∧ ∃ w : List UInt8, r = sv w ∧ w.length ≤ 24 := by
 have hp : Hp (fun _ => False) z [] [] z := Hp.start _ wf _ (by simp)
 refine Cw.enterS Tryz.func62 rfl rfl ?_
 refine Sm.seqW ?_
 conv => whnf
 refine Sm.seqW ?_
 conv => whnf
 refine hp.call (iitoaW_spec hp.wf hg hn1 hn2 hn3) ?_
 clear hp
 rintro _ s ⟨w, rfl, hw⟩ hp _
 conv => whnf
 refine Sm.ofW ?_
 conv => whnf
 exact ⟨hp.fr, w, rfl, hw⟩
theorem itoaA_spec {z : St} (wf : WF z) (hg : Gt z) {n : Int} (hn1 : -1000 < n) (hn2 : n < 1000) :
  Cw Tryz.prog 62 [.int .i64 n] z fun r s' => K0 z s' ∧ ∃ w : List UInt8, r = sv w ∧ w.length ≤ 24 ∧ (0 ≤ n → n < 100 → w = itoaF n.toNat) := by
 by_cases h : 0 ≤ n ∧ n < 100
 · obtain ⟨k, rfl⟩ : ∃ k : Nat, n = k := ⟨n.toNat, by omega⟩
   refine (itoa2_spec z (show k < 100 by omega)).mono fun r s' ⟨h1, h2⟩ => ?_
   have := itoa_le k
   exact ⟨by rw [h1]; exact .refl wf, _, h2, by omega, fun _ _ => rfl⟩
 · exact (itoaW_spec wf hg hn1 hn2 h).mono fun r s' ⟨h1, w, h2, h3⟩ => ⟨h1, w, h2, h3, fun g1 g2 => absurd ⟨g1, g2⟩ h⟩
end

/- Commands are printed. No condition but what each theorem names. -/
section
variable [Lk]
theorem slice_int3 {s : St} {k b : Nat} {C : List Value} (hb : Blk s k b C 1) {c : Nat} (hc : c ≤ 3) : evSliceMem Tryz.prog 22 (.slice (some ⟨b, 0, none⟩) 3 3) none (some (.int .i64 (c : Int))) none s = some (.slice (some ⟨b, 0, none⟩) c 3) := by
 obtain ⟨i, h1, h2, h3, h4⟩ := IL.hi
 unfold evSliceMem
 rw [IL.hu]
 simp only [h1, hb.esz, h2]
 have h : c = 0 ∨ c = 1 ∨ c = 2 ∨ c = 3 := by omega
 rcases h with rfl | rfl | rfl | rfl <;> rfl
def okW (x : Cm) (W : List (List UInt8)) : Prop := ∀ j, (h : j < W.length) → W[j].length ≤ 24 ∧ (0 ≤ [x.a, x.b, x.c].getD j 0 → [x.a, x.b, x.c].getD j 0 < 100 → W[j] = itoaF ([x.a, x.b, x.c].getD j 0).toNat)
def tailT (x : Cm) : List (List UInt8) := if x.v = 1 then [printL x.ls] else if x.v = 5 then [printF x.amt] else if x.v = 9 then [x.txt] else []
def outC (W : List (List UInt8)) (x : Cm) : List UInt8 := joinL 32 ((shape x.v).1.1 :: (W ++ tailT x))
def printC (W : List (List UInt8)) (x : Cm) : List UInt8 := if (shape x.v).2 = false then [] else if (readC (outC W x)).2 ≠ 0 ∨ eqC x (readC (outC W x)).1 = false then [] else outC W x
theorem okW_snoc {x : Cm} {W : List (List UInt8)} {w : List UInt8} (h : okW x W) (h1 : w.length ≤ 24) (h2 : 0 ≤ [x.a, x.b, x.c].getD W.length 0 → [x.a, x.b, x.c].getD W.length 0 < 100 → w = itoaF ([x.a, x.b, x.c].getD W.length 0).toNat) : okW x (W ++ [w]) := by
 intro j hj
 rw [List.length_append] at hj
 by_cases g : j < W.length
 · rw [List.getElem_append_left g]; exact h j g
 · have : j = W.length := by simp at hj; omega
   subst this
   simp only [List.getElem_concat_length]
   exact ⟨h1, h2⟩
theorem joinL_le (c : UInt8) : ∀ (L : List (List UInt8)) (m : Nat), (∀ w ∈ L, w.length ≤ m) → (joinL c L).length ≤ L.length * (m + 1)
 | [], m, _ => by simp [joinL]
 | x :: r, m, h => by
   have hx := h x (by simp)
   have : ∀ r : List (List UInt8), (∀ w ∈ r, w.length ≤ m) → (r.flatMap fun w => c :: w).length ≤ r.length * (m + 1) := by
    intro r
    induction r with
    | nil => intro _; simp
    | cons y r ih =>
      intro h
      have h1 := h y (by simp)
      have h2 := ih (fun w hw => h w (by simp [hw]))
      simp only [List.flatMap_cons, List.length_append, List.length_cons, Nat.add_mul, Nat.one_mul]
      omega
   have h2 := this r (fun w hw => h w (by simp [hw]))
   simp only [joinL, List.length_append, List.length_cons, Nat.add_mul, Nat.one_mul]
   omega
theorem shape_word (v : Int) : (shape v).1.1.length ≤ 8 := by
 unfold shape
 split
 · decide
 · rename_i h
   obtain ⟨k, hk⟩ : ∃ k : Nat, (v - 1).toNat = k := ⟨_, rfl⟩
   rw [hk]
   have h7 : k = 0 ∨ k = 1 ∨ k = 2 ∨ k = 3 ∨ k = 4 ∨ k = 5 ∨ k = 6 ∨ k = 7 ∨ k = 8 ∨ k = 9 ∨ k = 10 ∨ k = 11 ∨ k = 12 := by omega
   rcases h7 with rfl | rfl | rfl | rfl | rfl | rfl | rfl | rfl | rfl | rfl | rfl | rfl | rfl <;> decide
theorem cprint_spec {z : St} (wf : WF z) (hg : Gs z) (ht : Gt z) {x : Cm} (hx : x.amt.c < w128) {κ : Option Nat} {v : Value} (hv : Sln z κ v x.ls) (hok : ∀ y ∈ x.ls, MemLn y) (hl : x.ls.length ≤ 1000) (htx : x.txt.length ≤ 1000000)
  (hn : ∀ j, j < 3 → -1000 < [x.a, x.b, x.c].getD j 0 ∧ [x.a, x.b, x.c].getD j 0 < 1000) (ha : ∀ W, W.length = (shape x.v).1.2 → okW x W → verbN (cut1 32 (outC W x)) = 5 → ∀ c ∈ outC W x, c.toNat < 128) (hmx : ∀ W, W.length = (shape x.v).1.2 → okW x W → (readC (outC W x)).1.amt.c < w128 ∧ (readC (outC W x)).1.ls.length ≤ 1000) :
  Cw Tryz.prog 32 [x.val v] z fun r s' => K0 z s' ∧ ∃ W, W.length = (shape x.v).1.2 ∧ okW x W ∧ r = sv (printC W x) := by
 obtain ⟨a0, c0, rfl⟩ := hv.shape
 have hp : Hp (fun _ => False) z [slA κ (.slice a0 x.ls.length c0) 6 x.ls.length (lnC x.ls)] [] z := Hp.start _ wf _ (by simp; exact hv)
 have hsl := shape_le x.v
 have hsw := shape_word x.v
 refine Cw.enterS Tryz.func32 rfl rfl ?_
 refine Sm.seqW ?_
 conv => whnf
 refine hp.var (cs := x.cells (.slice a0 x.ls.length c0)) (e := 10) rfl rfl ?_
 clear hp
 intro p1 s hp _
 conv => whnf
 refine Sm.live [1] ?_
 conv => whnf
 refine Sm.seqW ?_
 conv => whnf
 refine hp.load (v := .int .i64 x.v) .d (by rfl) rfl rfl rfl ?_
 conv => whnf
 refine hp.call (shapeOf_spec hp.wf x.v) ?_
 clear hp
 rintro _ s rfl hp _
 conv => whnf
 refine hp.alloc (cs := shC ([], 0)) (e := 2) rfl rfl rfl rfl rfl ?_
 clear hp
 intro p3 s hp _
 conv => whnf
 refine hp.storeW (vs := shC (shape x.v).1) rfl .d csx rfl rfl rfl ?_
 clear hp
 intro s hp _
 conv => whnf
 refine Sm.live [1, 3, 4] ?_
 conv => whnf
 refine Sm.seq ?_
 refine Sm.seqW ?_
 conv => whnf
 refine Sm.live [1, 3, 18] ?_
 conv => whnf
 refine Sm.ofW ?_
 conv => whnf
 cases hsh : (shape x.v).2 with
 | false =>
   repeat ((first | refine Br.y1 ?_ | refine Br.n1 ?_); conv => whnf)
   have hzero : (shape x.v).1.2 = 0 := by
    unfold shape at hsh ⊢
    split
    · rfl
    · rename_i g; rw [if_neg g] at hsh; cases hsh
   exact ⟨hp.fr, [], hzero.symm, fun j h => absurd h (Nat.not_lt_zero _), by unfold printC; rw [if_pos hsh]; rfl⟩
 | true =>
   repeat ((first | refine Br.y1 ?_ | refine Br.n1 ?_); conv => whnf)
   refine Sm.seqW ?_
   conv => whnf
   refine hp.load (v := sv (shape x.v).1.1) .d (by rfl) rfl rfl rfl ?_
   conv => whnf
   refine hp.lit (cs := [sv (shape x.v).1.1]) (e := 1) (by rfl) ?_
   clear hp
   intro b5 s hp _
   conv => whnf
   refine Sm.live [1, 3, 5] ?_
   conv => whnf
   refine Sm.seq ?_
   refine Sm.seqW ?_
   conv => whnf
   refine hp.load (v := .int .i64 x.a) .d (by rfl) rfl rfl rfl ?_
   conv => whnf
   refine hp.load (v := .int .i64 x.b) .d (by rfl) rfl rfl rfl ?_
   conv => whnf
   refine hp.load (v := .int .i64 x.c) .d (by rfl) rfl rfl rfl ?_
   conv => whnf
   refine hp.lit (cs := [.int .i64 x.a, .int .i64 x.b, .int .i64 x.c]) (e := 1) (by rfl) ?_
   clear hp
   intro b s hp _
   conv => whnf
   refine hp.load (v := .int .i64 ((shape x.v).1.2 : Int)) .d (by rfl) rfl rfl rfl ?_
   conv => whnf
   refine Om.of _ (slice_int3 (hp.at (show Has (blkA b b _ 1) _ _ by repeat constructor)) hsl) ?_
   conv => whnf
   refine Sm.live [1, 5, 31, 32, 33] ?_
   conv => whnf
   have hp := hp.blkO (k := b5) (b := b5) (n := 1) .d rfl
   refine Sm.block ?_
   refine Sm.loop ?_
   generalize hcnt : (shape x.v).1.2 = n at *
   refine Lp.ofS (α := Option Nat × Value × List (List UInt8)) (fun y => [(1, .pointer (some ⟨p1, 0, none⟩)), (5, y.2.1), (31, .slice (some ⟨b, 0, none⟩) n 3), (32, .int .i64 (n : Int)), (33, .int .i64 (y.2.2.length : Int))])
    (fun y s' => y.2.2.length ≤ n ∧ okW x y.2.2 ∧ Hp (fun _ => False) z [slA κ (.slice a0 x.ls.length c0) 6 x.ls.length (lnC x.ls)] [onA y.1 y.2.1 1 (1 + y.2.2.length) (((shape x.v).1.1 :: y.2.2).map sv), blkA b b [.int .i64 x.a, .int .i64 x.b, .int .i64 x.c] 1, blkA p1 p1 (x.cells (.slice a0 x.ls.length c0)) 10] s') (fun y => n - y.2.2.length) ?_ (some b5, .slice (some ⟨b5, 0, none⟩) 1 1, []) (subK_ok (by refine ⟨rfl, rfl, rfl, rfl, rfl, trivial⟩)) ⟨Nat.zero_le _, fun j h => absurd h (Nat.not_lt_zero _), hp.pik (by repeat (first | exact Pik.nil | exact Pik.refl _ | exact Rm.here | apply Rm.there | apply Pik.cons | apply Pik.skip))⟩
   clear hp
   rintro ⟨κo, vo, W⟩ s ⟨hi, hW, hp⟩
   simp only at hi hW hp
   refine Sm.seqW ?_
   conv => whnf
   refine Sm.live [1, 5, 31, 32, 33, 34] ?_
   conv => whnf
   refine Sm.seq ?_
   refine Sm.ofW ?_
   conv => whnf
   refine Br.mk (fun hc => ?_) (fun hc => ?_)
   · have hc : W.length < n := by have : (W.length : Int) < (n : Int) := of_decide_eq_true hc; omega
     have hcell : ([.int .i64 x.a, .int .i64 x.b, .int .i64 x.c] : List Value)[0 + W.length * 1]? = some (.int .i64 ([x.a, x.b, x.c].getD W.length 0)) := by
      have h : W.length = 0 ∨ W.length = 1 ∨ W.length = 2 := by omega
      rcases h with h | h | h <;> rw [h] <;> rfl
     obtain ⟨hn1, hn2⟩ := hn W.length (by omega)
     conv => whnf
     refine Sm.seq ?_
     refine Sm.block ?_
     refine Sm.seqW ?_
     conv => whnf
     refine Om.of _ (idx_at (P := Tryz.prog) IL (b := b) (off := 0) (c := 3) (n := n) .i64 hc) ?_
     conv => whnf
     refine hp.load (v := .int .i64 ([x.a, x.b, x.c].getD W.length 0)) .d hcell rfl rfl rfl ?_
     conv => whnf
     refine Sm.live [1, 5, 7, 31, 32, 33] ?_
     conv => whnf
     refine Sm.ofW ?_
     conv => whnf
     refine hp.call (itoaA_spec hp.wf (ht.keep hp.fr) hn1 hn2) ?_
     clear hp
     rintro _ s ⟨w, rfl, hw1, hw2⟩ hp _
     conv => whnf
     refine hp.lit (cs := [sv w]) (e := 1) (by rfl) ?_
     clear hp
     intro b4 s4 hp _
     conv => whnf
     have x4 := hp.blkSl (n := 1) (C := [sv w]) (k := b4) (b := b4) (e := 1) .d rfl
     refine hp.app SG Tryz.underlying95 rfl (κ := κo) (v := vo) .d (elems_sl x4) rfl rfl (by omega) ?_
     clear hp x4
     intro v5 κ5 s hp
     have e1 : ((shape x.v).1.1 :: W).map sv ++ [sv w] = ((shape x.v).1.1 :: (W ++ [w])).map sv := by simp
     rw [e1, show 1 + W.length + 1 = 1 + (W ++ [w]).length by rw [List.length_append]; simp; omega] at hp
     conv => whnf
     refine Sm.ofW ?_
     conv => whnf
     exact ⟨(κ5, v5, W ++ [w]), by (show n - (W ++ [w]).length < n - W.length); rw [List.length_append]; simp; omega, subK_ok (by refine ⟨rfl, rfl, rfl, rfl, congrArg (fun x => some (Value.int .i64 x)) (show IntKind.i64.wrap ((W.length : Int) + 1) = (((W ++ [w]).length : Nat) : Int) by rw [wi64 (by omega) (by omega), List.length_append]; simp), trivial⟩), by (show (W ++ [w]).length ≤ n); rw [List.length_append]; simp; omega, okW_snoc hW hw1 hw2, hp.pik (by repeat (first | exact Pik.nil | exact Pik.refl _ | exact Rm.here | apply Rm.there | apply Pik.cons | apply Pik.skip))⟩
   · have hc : W.length = n := by have : ¬ (W.length : Int) < (n : Int) := of_decide_eq_false hc; omega
     conv => whnf
     refine Sm.seq (Sm.mono (Q := fun e' L' s' => e' = .normal ∧ ∃ κo vo, Hp (fun _ => False) z [slA κ (.slice a0 x.ls.length c0) 6 x.ls.length (lnC x.ls)] [onA κo vo 1 (1 + (W ++ tailT x).length) (((shape x.v).1.1 :: (W ++ tailT x)).map sv), blkA p1 p1 (x.cells (.slice a0 x.ls.length c0)) 10] s' ∧ Sub [(1, .pointer (some ⟨p1, 0, none⟩)), (5, vo)] L') ?_ ?_)
     · refine Sm.seqW ?_
       conv => whnf
       refine hp.load (v := .int .i64 x.v) .d (by rfl) rfl rfl rfl ?_
       conv => whnf
       refine Sm.live [1, 5, 44] ?_
       conv => whnf
       refine Sm.block ?_
       refine Sm.seqW ?_
       conv => whnf
       refine Sm.live [1, 5, 44, 45] ?_
       conv => whnf
       refine Sm.ofW ?_
       conv => whnf
       by_cases k1 : x.v = 1
       · refine Br.yes (beq_iff_eq.2 k1) ?_
         conv => whnf
         refine hp.load (v := .slice a0 x.ls.length c0) .d (by rfl) rfl rfl rfl ?_
         conv => whnf
         refine hp.call (eprint_spec hp.wf (hp.slR (κ := κ) (v := .slice a0 x.ls.length c0) .here) hok hl) ?_
         clear hp
         rintro _ s rfl hp _
         conv => whnf
         refine hp.lit (cs := [sv (printL x.ls)]) (e := 1) (by rfl) ?_
         clear hp
         intro b4 s4 hp _
         conv => whnf
         have x4 := hp.blkSl (n := 1) (C := [sv (printL x.ls)]) (k := b4) (b := b4) (e := 1) .d rfl
         refine hp.app SG Tryz.underlying95 rfl (κ := κo) (v := vo) .d (elems_sl x4) rfl rfl (by omega) ?_
         clear hp x4
         intro v5 κ5 s hp
         have e1 : ((shape x.v).1.1 :: W).map sv ++ [sv (printL x.ls)] = ((shape x.v).1.1 :: (W ++ [printL x.ls])).map sv := by simp
         rw [e1, show 1 + W.length + 1 = 1 + (W ++ [printL x.ls]).length by rw [List.length_append]; simp; omega] at hp
         conv => whnf
         have htl : tailT x = [printL x.ls] := by unfold tailT; rw [if_pos k1]
         refine ⟨rfl, κ5, v5, ?_, subK_ok ⟨rfl, rfl, trivial⟩⟩
         rw [htl]
         exact hp.pik (by repeat (first | exact Pik.nil | exact Pik.refl _ | exact Rm.here | apply Rm.there | apply Pik.cons | apply Pik.skip))
       · refine Br.no (beq_eq_false_iff_ne.2 k1) ?_
         conv => whnf
         by_cases k5 : x.v = 5
         · refine Br.yes (beq_iff_eq.2 k5) ?_
           conv => whnf
           refine hp.loadA (l := x.amt.cells) .d rfl (by rfl) rfl rfl ?_
           conv => whnf
           refine hp.call (print_spec hp.wf x.amt hx) ?_
           clear hp
           rintro _ s rfl hp _
           conv => whnf
           refine hp.lit (cs := [sv (printF x.amt)]) (e := 1) (by rfl) ?_
           clear hp
           intro b4 s4 hp _
           conv => whnf
           have x4 := hp.blkSl (n := 1) (C := [sv (printF x.amt)]) (k := b4) (b := b4) (e := 1) .d rfl
           refine hp.app SG Tryz.underlying95 rfl (κ := κo) (v := vo) .d (elems_sl x4) rfl rfl (by omega) ?_
           clear hp x4
           intro v5 κ5 s hp
           have e1 : ((shape x.v).1.1 :: W).map sv ++ [sv (printF x.amt)] = ((shape x.v).1.1 :: (W ++ [printF x.amt])).map sv := by simp
           rw [e1, show 1 + W.length + 1 = 1 + (W ++ [printF x.amt]).length by rw [List.length_append]; simp; omega] at hp
           conv => whnf
           have htl : tailT x = [printF x.amt] := by unfold tailT; rw [if_neg k1, if_pos k5]
           refine ⟨rfl, κ5, v5, ?_, subK_ok ⟨rfl, rfl, trivial⟩⟩
           rw [htl]
           exact hp.pik (by repeat (first | exact Pik.nil | exact Pik.refl _ | exact Rm.here | apply Rm.there | apply Pik.cons | apply Pik.skip))
         · refine Br.no (beq_eq_false_iff_ne.2 k5) ?_
           conv => whnf
           by_cases k9 : x.v = 9
           · refine Br.yes (beq_iff_eq.2 k9) ?_
             conv => whnf
             refine hp.load (v := sv x.txt) .d (by rfl) rfl rfl rfl ?_
             conv => whnf
             refine hp.lit (cs := [sv (x.txt)]) (e := 1) (by rfl) ?_
             clear hp
             intro b4 s4 hp _
             conv => whnf
             have x4 := hp.blkSl (n := 1) (C := [sv (x.txt)]) (k := b4) (b := b4) (e := 1) .d rfl
             refine hp.app SG Tryz.underlying95 rfl (κ := κo) (v := vo) .d (elems_sl x4) rfl rfl (by omega) ?_
             clear hp x4
             intro v5 κ5 s hp
             have e1 : ((shape x.v).1.1 :: W).map sv ++ [sv (x.txt)] = ((shape x.v).1.1 :: (W ++ [x.txt])).map sv := by simp
             rw [e1, show 1 + W.length + 1 = 1 + (W ++ [x.txt]).length by rw [List.length_append]; simp; omega] at hp
             conv => whnf
             have htl : tailT x = [x.txt] := by unfold tailT; rw [if_neg k1, if_neg k5, if_pos k9]
             refine ⟨rfl, κ5, v5, ?_, subK_ok ⟨rfl, rfl, trivial⟩⟩
             rw [htl]
             exact hp.pik (by repeat (first | exact Pik.nil | exact Pik.refl _ | exact Rm.here | apply Rm.there | apply Pik.cons | apply Pik.skip))
           · refine Br.no (beq_eq_false_iff_ne.2 k9) ?_
             conv => whnf
             have htl : tailT x = [] := by unfold tailT; rw [if_neg k1, if_neg k5, if_neg k9]
             refine ⟨rfl, κo, vo, ?_, subK_ok ⟨rfl, rfl, trivial⟩⟩
             rw [htl, List.append_nil]
             exact hp.pik (by repeat (first | exact Pik.nil | exact Pik.refl _ | exact Rm.here | apply Rm.there | apply Pik.cons | apply Pik.skip))
     clear hp
     rintro e' L' s ⟨rfl, κo, vo, hp, hs⟩
     refine Sm.weak _ hs ?_
     clear hs
     have hok1 := hW
     have hmem : ∀ w ∈ (shape x.v).1.1 :: (W ++ tailT x), w.length ≤ 1000000 := by
      intro w hw
      rcases List.mem_cons.1 hw with rfl | hw
      · omega
      rcases List.mem_append.1 hw with hw | hw
      · obtain ⟨j, hj, rfl⟩ := List.getElem_of_mem hw
        have := (hW j hj).1; omega
      · unfold tailT at hw
        have h1 := lines_le x.ls
        have h2 := print_le x.amt
        split at hw
        · obtain rfl := List.mem_singleton.1 hw
          unfold printL
          split
          · simp
          · omega
        · split at hw
          · obtain rfl := List.mem_singleton.1 hw; omega
          · split at hw
            · obtain rfl := List.mem_singleton.1 hw; exact htx
            · cases hw
     have htl1 : (tailT x).length ≤ 1 := by unfold tailT; split; simp; split; simp; split <;> simp
     have hln : ((shape x.v).1.1 :: (W ++ tailT x)).length ≤ 5 := by rw [List.length_cons, List.length_append]; omega
     have hout : (outC W x).length ≤ 5000005 := by
      have h1 := joinL_le 32 _ _ hmem
      have h2 := Nat.mul_le_mul_right 1000001 hln
      unfold outC
      omega
     refine Sm.seqW ?_
     conv => whnf
     have hso : Sl s κo vo 1 ((shape x.v).1.1 :: (W ++ tailT x)).length (((shape x.v).1.1 :: (W ++ tailT x)).map sv) := by
      rw [List.length_cons, Nat.add_comm]
      exact hp.slF .d
     refine hp.call (sjoin_spec hp.wf hso 32 (by show (outC W x).length ≤ _; omega)) ?_
     clear hp
     rintro _ s rfl hp _
     conv => whnf
     have hJ : joinL 32 ((shape x.v).1.1 :: (W ++ tailT x)) = outC W x := rfl
     rw [hJ]
     refine Sm.live [1, 8] ?_
     conv => whnf
     refine Sm.seq ?_
     refine Sm.seqW ?_
     conv => whnf
     refine hp.call (cread_spec hp.wf (hg.keep hp.fr) (outC W x) (by omega) (ha W hc hW)) ?_
     intro r s hr h1 k1
     obtain ⟨w9, rfl, how_⟩ := hr
     obtain ⟨hm1, hm2⟩ := hmx W hc hW
     have hpc : printC W x = if (readC (outC W x)).2 ≠ 0 ∨ eqC x (readC (outC W x)).1 = false then [] else outC W x := by
      unfold printC; rw [if_neg (by rw [hsh]; decide)]
     generalize readC (outC W x) = A at *
     obtain ⟨κ9, hp⟩ := hp.on k1 how_
     clear h1 k1 how_
     obtain ⟨a9, c9, rfl⟩ := (hp.slF (κ := κ9) (v := w9) .d).shape
     conv => whnf
     refine hp.alloc (cs := Cm.zero.cells nil24) (e := 10) rfl rfl rfl rfl rfl ?_
     clear hp
     intro p9 s hp _
     conv => whnf
     refine hp.storeW (vs := A.1.cells (.slice a9 A.1.ls.length c9)) rfl .d csx rfl rfl rfl ?_
     clear hp
     intro s hp _
     conv => whnf
     refine Sm.live [1, 8, 9, 10] ?_
     conv => whnf
     refine Sm.seqW ?_
     conv => whnf
     by_cases he : A.2 = 0
     · have q1 : (!(A.2 == 0)) = false := by rw [he]; rfl
       repeat (first | (refine Br.no q1 ?_; conv => whnf) | ((first | refine Br.y1 ?_ | refine Br.n1 ?_); conv => whnf))
       refine hp.loadA (l := x.cells (.slice a0 x.ls.length c0)) .d rfl (by rfl) rfl rfl ?_
       conv => whnf
       repeat (first | (refine Br.no q1 ?_; conv => whnf) | ((first | refine Br.y1 ?_ | refine Br.n1 ?_); conv => whnf))
       refine hp.loadA (l := A.1.cells (.slice a9 A.1.ls.length c9)) .d rfl (by rfl) rfl rfl ?_
       conv => whnf
       repeat (first | (refine Br.no q1 ?_; conv => whnf) | ((first | refine Br.y1 ?_ | refine Br.n1 ?_); conv => whnf))
       refine hp.call (csame_spec hp.wf hx hm1 (hp.slR (κ := κ) (v := .slice a0 x.ls.length c0) .here) (hp.slF (κ := κ9) (v := .slice a9 A.1.ls.length c9) .d) hl) ?_
       clear hp
       rintro _ s rfl hp _
       conv => whnf
       repeat (first | (refine Br.no q1 ?_; conv => whnf) | ((first | refine Br.y1 ?_ | refine Br.n1 ?_); conv => whnf))
       refine Sm.live [8, 82] ?_
       conv => whnf
       refine Sm.ofW ?_
       conv => whnf
       cases hq : eqC x A.1 with
       | true =>
         repeat ((first | refine Br.y1 ?_ | refine Br.n1 ?_); conv => whnf)
         refine Sm.seqW ?_
         conv => whnf
         refine Sm.live [2] ?_
         conv => whnf
         refine Sm.ofW ?_
         conv => whnf
         exact ⟨hp.fr, W, hc, hW, by rw [hpc, if_neg (fun h => h.elim (fun g => g he) (fun g => by rw [hq] at g; cases g))]; rfl⟩
       | false =>
         repeat ((first | refine Br.y1 ?_ | refine Br.n1 ?_); conv => whnf)
         exact ⟨hp.fr, W, hc, hW, by rw [hpc, if_pos (.inr hq)]; rfl⟩
     · have q1 : (!(A.2 == 0)) = true := by rw [beq_eq_false_iff_ne.2 he]; rfl
       repeat (first | (refine Br.yes q1 ?_; conv => whnf) | ((first | refine Br.y1 ?_ | refine Br.n1 ?_); conv => whnf))
       refine Sm.live [8, 82] ?_
       conv => whnf
       refine Sm.ofW ?_
       conv => whnf
       repeat ((first | refine Br.y1 ?_ | refine Br.n1 ?_); conv => whnf)
       exact ⟨hp.fr, W, hc, hW, by rw [hpc, if_pos (.inl he)]; rfl⟩
end

/- Commands printed and read, without a program; the chapter's example. No condition. -/
section
variable [Lk]
theorem word_ok : ∀ k : _root_.Fin 13, verbN (shape ((k.val + 1 : Nat) : Int)).1.1 = k.val + 1 ∧ ((shape ((k.val + 1 : Nat) : Int)).1.1.all fun b => !(b == 32)) = true := by decide +kernel
theorem shape_ok {v : Int} (h : (shape v).2 = true) : ∃ k : Nat, v = ((k + 1 : Nat) : Int) ∧ k < 13 := by
 unfold shape at h
 split at h
 · cases h
 · exact ⟨(v - 1).toNat, by omega, by omega⟩
theorem cut_join {w : List UInt8} (h : ∀ b ∈ w, b ≠ 32) (L : List (List UInt8)) : cut1 32 (joinL 32 (w :: L)) = w := by
 cases L with
 | nil => rw [show joinL 32 [w] = w by simp [joinL]]; exact (cut_self h).1
 | cons y r =>
   rw [show joinL 32 (w :: y :: r) = w ++ 32 :: joinL 32 (y :: r) from rfl]
   exact (cut_app h _).1
theorem out_verb {x : Cm} (h : (shape x.v).2 = true) (W : List (List UInt8)) : ((verbN (cut1 32 (outC W x)) : Nat) : Int) = x.v := by
 obtain ⟨k, hk, hk13⟩ := shape_ok h
 obtain ⟨h1, h2⟩ := word_ok ⟨k, hk13⟩
 unfold outC
 rw [cut_join (fun b hb => ?_)]
 · rw [hk, h1]
 · rw [hk] at hb
   have := List.all_eq_true.1 h2 b hb
   simpa using this
theorem W_eq {x : Cm} {W : List (List UInt8)} (h : okW x W) (hr : ∀ j, j < W.length → 0 ≤ [x.a, x.b, x.c].getD j 0 ∧ [x.a, x.b, x.c].getD j 0 < 100) : W = (List.range W.length).map fun j => itoaF ([x.a, x.b, x.c].getD j 0).toNat := by
 refine List.ext_getElem (by simp) fun j h1 h2 => ?_
 rw [(h j h1).2 (hr j h1).1 (hr j h1).2]
 simp
theorem readC_c (t : List UInt8) : (readC t).1.amt.c < w128 ∧ (readC t).1.ls.length ≤ 1000 := by
 have z : (Cm.zero.amt.c < w128 ∧ Cm.zero.ls.length ≤ 1000) := ⟨by show 0 < w128; decide, by decide⟩
 unfold readC
 split
 · exact z
 · split
   · exact z
   · unfold restC
     split
     · split
       · exact z
       · exact ⟨by show 0 < w128; decide, by have := readL_len; exact Nat.le_trans (this _) (by decide)⟩
     · split
       · split
         · exact z
         · refine ⟨?_, Nat.zero_le _⟩
           show (amtF _).1.c < w128
           unfold amtF
           split
           · show 0 < w128; decide
           · split
             · show 0 < w128; decide
             · show ((readL _).1.headD Ln.zero).amt.c < w128
               cases hq : (readL (48 :: 58 :: _)).1 with
               | nil => show 0 < w128; decide
               | cons y r => exact readL_c _ y (by rw [hq]; simp)
       · split
         · split
           · exact z
           · exact ⟨by show 0 < w128; decide, Nat.zero_le _⟩
         · exact ⟨by show 0 < w128; decide, Nat.zero_le _⟩
/-! ### the chapter's example -/
def knT : List UInt8 := [99, 108, 111, 115, 101, 32, 48, 32, 49]
def knC : Cm := ⟨3, 0, 1, 0, Dc.zero, [], []⟩
theorem kn_read : readC knT = (knC, 0) := by kernel_rfl
theorem kn_out {W : List (List UInt8)} (h1 : W.length = (shape knC.v).1.2) (h2 : okW knC W) : outC W knC = knT := by
 have h3 : W.length = 2 := h1
 have := W_eq h2 (fun j hj => by
  have : j = 0 ∨ j = 1 := by omega
  rcases this with rfl | rfl <;> decide)
 rw [this, h3]; rfl
theorem kn_print {W : List (List UInt8)} (h1 : W.length = (shape knC.v).1.2) (h2 : okW knC W) : printC W knC = knT := by
 unfold printC
 rw [kn_out h1 h2, kn_read]
 rfl
theorem cmknown_spec {z : St} (wf : WF z) (hg : Gs z) (ht : Gt z) : Cw Tryz.prog 34 [] z fun r s' => K0 z s' ∧ r = .bool true := by
 have hp : Hp (fun _ => False) z [] [] z := Hp.start _ wf _ (by simp)
 refine Cw.enterS Tryz.func34 rfl rfl ?_
 refine Sm.seqW ?_
 conv => whnf
 refine Sm.seqW ?_
 conv => whnf
 refine hp.call (cread_spec hp.wf hg knT (by decide) (fun h => absurd h (by decide +kernel))) ?_
 intro r s hr h1 k1
 obtain ⟨w, rfl, how_⟩ := hr
 rw [kn_read] at how_ ⊢
 obtain ⟨κ, hp⟩ := hp.on k1 how_
 clear h1 k1 how_
 obtain ⟨a, c, rfl⟩ := (hp.slF (κ := κ) (v := w) .d).shape
 conv => whnf
 refine hp.alloc (cs := Cm.zero.cells nil24) (e := 10) rfl rfl rfl rfl rfl ?_
 clear hp
 intro p1 s hp _
 conv => whnf
 refine hp.storeW (vs := knC.cells (.slice a knC.ls.length c)) rfl .d csx rfl rfl rfl ?_
 clear hp
 intro s hp _
 conv => whnf
 refine Sm.live [1, 2] ?_
 conv => whnf
 refine Sm.seqW ?_
 conv => whnf
 repeat ((first | refine Br.y1 ?_ | refine Br.n1 ?_); conv => whnf)
 refine hp.load (v := .int .i64 3) .d (by rfl) rfl rfl rfl ?_
 conv => whnf
 repeat ((first | refine Br.y1 ?_ | refine Br.n1 ?_); conv => whnf)
 refine hp.load (v := .int .i64 0) .d (by rfl) rfl rfl rfl ?_
 conv => whnf
 repeat ((first | refine Br.y1 ?_ | refine Br.n1 ?_); conv => whnf)
 refine hp.load (v := .int .i64 1) .d (by rfl) rfl rfl rfl ?_
 conv => whnf
 repeat ((first | refine Br.y1 ?_ | refine Br.n1 ?_); conv => whnf)
 refine hp.loadA (l := knC.cells (.slice a knC.ls.length c)) .d rfl (by rfl) rfl rfl ?_
 conv => whnf
 repeat ((first | refine Br.y1 ?_ | refine Br.n1 ?_); conv => whnf)
 refine hp.call (cprint_spec hp.wf (hg.keep hp.fr) (ht.keep hp.fr) (x := knC) (by show 0 < w128; decide) (hp.slF (κ := κ) (v := .slice a knC.ls.length c) .d) (fun y hy => by cases hy) (by decide) (by decide) (by decide) (fun W h1 h2 h5 => by rw [kn_out h1 h2] at h5; exact absurd h5 (by decide +kernel)) (fun W h1 h2 => readC_c _)) ?_
 clear hp
 rintro _ s ⟨W, hW1, hW2, rfl⟩ hp _
 rw [kn_print hW1 hW2]
 conv => whnf
 repeat ((first | refine Br.y1 ?_ | refine Br.n1 ?_); conv => whnf)
 refine Om.of _ (sv_eq knT knT) ?_
 conv => whnf
 repeat ((first | refine Br.y1 ?_ | refine Br.n1 ?_); conv => whnf)
 refine hp.load (v := .int .i64 3) .d (by rfl) rfl rfl rfl ?_
 conv => whnf
 repeat ((first | refine Br.y1 ?_ | refine Br.n1 ?_); conv => whnf)
 refine (changes_spec _ 3).mono ?_
 rintro _ s1 ⟨h1, rfl⟩
 obtain rfl := h1.symm
 conv => whnf
 repeat ((first | refine Br.y1 ?_ | refine Br.n1 ?_); conv => whnf)
 refine (changes_spec _ 6).mono ?_
 rintro _ s1 ⟨h1, rfl⟩
 obtain rfl := h1.symm
 conv => whnf
 repeat ((first | refine Br.y1 ?_ | refine Br.n1 ?_); conv => whnf)
 refine Sm.live [0] ?_
 conv => whnf
 refine Sm.ofW ?_
 conv => whnf
 exact ⟨hp.fr, rfl⟩
end

/- CmdNumbers without a program. No condition. -/
section
variable [Lk]
def DT (n : Int) : List UInt8 := if n < 0 then 45 :: itoaF (-n).toNat else dcF 2 n.toNat
theorem dt_ok : ∀ i : _root_.Fin 130, smallF (DT ((i.val : Int) - 15)) = (if 15 ≤ i.val ∧ i.val < 115 then (i.val : Int) - 15 else -1) ∧ ((DT ((i.val : Int) - 15)).all fun b => !(b == 32)) = true ∧ (DT ((i.val : Int) - 15)).length ≤ 3 ∧ (15 ≤ i.val ∧ i.val < 115 → DT ((i.val : Int) - 15) = itoaF (i.val - 15)) := by decide +kernel
theorem nums_cons {D r : List UInt8} (h : ∀ b ∈ D, b ≠ 32) (n : Nat) : numsF (n + 1) (D ++ 32 :: r) true = if smallF D < 0 then none else (numsF n r true).map fun x => (smallF D :: x.1, x.2) := by
 obtain ⟨h1, h2, h3⟩ := cut_app h r
 rw [numsF, h1, h2, h3]
 by_cases g : smallF D < 0
 · rw [if_pos g, if_pos (.inr g)]
 · rw [if_neg g, if_neg (fun q => q.elim (by decide) g)]
theorem cut2_self {c : UInt8} {x : List UInt8} (h : ∀ b ∈ x, b ≠ c) : cut2 c x = [] := by
 have h1 := (cut_self h).2
 unfold cutQ at h1
 unfold cut2
 cases hi : idxL c.toNat x 0 with
 | none => rfl
 | some i => rw [hi] at h1; cases h1
theorem nums_last {D : List UInt8} (h : ∀ b ∈ D, b ≠ 32) : numsF 1 D true = if smallF D < 0 then none else some ([smallF D], [], false) := by
 obtain ⟨h1, h3⟩ := cut_self h
 rw [numsF, h1, cut2_self h, h3]
 by_cases g : smallF D < 0
 · rw [if_pos g, if_pos (.inr g)]
 · rw [if_neg g, if_neg (fun q => q.elim (by decide) g)]; rfl
theorem read_two {k : Nat} (hk : k < 13) (h2 : (shape ((k + 1 : Nat) : Int)).1.2 = 2) (ht : tailF ((k + 1 : Nat) : Int) = false) (h9 : k ≠ 0 ∧ k ≠ 4 ∧ k ≠ 8) {A B : List UInt8} (hA : ∀ b ∈ A, b ≠ 32) (hB : ∀ b ∈ B, b ≠ 32) (la : A.length ≤ 3) (lb : B.length ≤ 3) :
  readC ((shape ((k + 1 : Nat) : Int)).1.1 ++ 32 :: (A ++ 32 :: B)) = if smallF A < 0 ∨ smallF B < 0 then (Cm.zero, 2) else (⟨((k + 1 : Nat) : Int), smallF A, smallF B, 0, Dc.zero, [], []⟩, 0) := by
 obtain ⟨w1, w2⟩ := word_ok ⟨k, hk⟩
 have hw : ∀ b ∈ (shape ((k + 1 : Nat) : Int)).1.1, b ≠ 32 := fun b hb => by simpa using List.all_eq_true.1 w2 b hb
 obtain ⟨c1, c2, c3⟩ := cut_app hw (A ++ 32 :: B)
 have hlen := shape_word ((k + 1 : Nat) : Int)
 unfold readC
 rw [c1, c2, c3]
 simp only [w1, h2]
 rw [nums_cons hA 1, nums_last hB]
 by_cases ga : smallF A < 0
 · rw [if_pos ga, if_pos (.inl ga)]
 · rw [if_neg ga]
   by_cases gb : smallF B < 0
   · rw [if_pos gb, if_pos (.inr gb)]; rfl
   · rw [if_neg gb, if_neg (fun h => h.elim ga gb)]
     show (if 400 < _ ∨ k + 1 = 0 ∨ false ≠ tailF ((k + 1 : Nat) : Int) then (Cm.zero, (2 : Int)) else restC ((k + 1 : Nat) : Int) [smallF A, smallF B] []) = _
     rw [if_neg (fun h => by
      rcases h with h | h | h
      · simp only [List.length_append, List.length_cons] at h; omega
      · omega
      · exact h ht.symm)]
     unfold restC
     rw [if_neg (by omega), if_neg (by omega), if_neg (by omega)]
     rfl
theorem read_three {k : Nat} (hk : k < 13) (h2 : (shape ((k + 1 : Nat) : Int)).1.2 = 3) (ht : tailF ((k + 1 : Nat) : Int) = false) (h9 : k ≠ 0 ∧ k ≠ 4 ∧ k ≠ 8) {A B C : List UInt8} (hA : ∀ b ∈ A, b ≠ 32) (hB : ∀ b ∈ B, b ≠ 32) (hC : ∀ b ∈ C, b ≠ 32) (la : A.length ≤ 3) (lb : B.length ≤ 3) (lc : C.length ≤ 3) :
  readC ((shape ((k + 1 : Nat) : Int)).1.1 ++ 32 :: (A ++ 32 :: (B ++ 32 :: C))) = if smallF A < 0 ∨ smallF B < 0 ∨ smallF C < 0 then (Cm.zero, 2) else (⟨((k + 1 : Nat) : Int), smallF A, smallF B, smallF C, Dc.zero, [], []⟩, 0) := by
 obtain ⟨w1, w2⟩ := word_ok ⟨k, hk⟩
 have hw : ∀ b ∈ (shape ((k + 1 : Nat) : Int)).1.1, b ≠ 32 := fun b hb => by simpa using List.all_eq_true.1 w2 b hb
 obtain ⟨c1, c2, c3⟩ := cut_app hw (A ++ 32 :: (B ++ 32 :: C))
 have hlen := shape_word ((k + 1 : Nat) : Int)
 unfold readC
 rw [c1, c2, c3]
 simp only [w1, h2]
 rw [nums_cons hA 2, nums_cons hB 1, nums_last hC]
 by_cases ga : smallF A < 0
 · rw [if_pos ga, if_pos (.inl ga)]
 · rw [if_neg ga]
   by_cases gb : smallF B < 0
   · rw [if_pos gb, if_pos (.inr (.inl gb))]; rfl
   · rw [if_neg gb]
     by_cases gc : smallF C < 0
     · rw [if_pos gc, if_pos (.inr (.inr gc))]; rfl
     · rw [if_neg gc, if_neg (fun h => h.elim ga (fun h => h.elim gb gc))]
       show (if 400 < _ ∨ k + 1 = 0 ∨ false ≠ tailF ((k + 1 : Nat) : Int) then (Cm.zero, (2 : Int)) else restC ((k + 1 : Nat) : Int) [smallF A, smallF B, smallF C] []) = _
       rw [if_neg (fun h => by
       rcases h with h | h | h
       · simp only [List.length_append, List.length_cons] at h; omega
       · omega
       · exact h ht.symm)]
       unfold restC
       rw [if_neg (by omega), if_neg (by omega), if_neg (by omega)]
       rfl
theorem nums_rng : ∀ {n : Nat} {r : List UInt8} {q : Bool} {x : List Int × List UInt8 × Bool}, numsF n r q = some x → x.1.length = n ∧ ∀ e ∈ x.1, 0 ≤ e ∧ e < 100
 | 0, r, q, x, h => by injection h with h; subst h; exact ⟨rfl, fun e he => by cases he⟩
 | n + 1, r, q, x, h => by
   rw [numsF] at h
   split at h
   · cases h
   · rename_i g
     cases hq : numsF n (cut2 32 r) (cutQ 32 r) with
     | none => rw [hq] at h; cases h
     | some y =>
       rw [hq] at h
       injection h with h
       subst h
       obtain ⟨h1, h2⟩ := nums_rng hq
       refine ⟨by show (_ :: y.1).length = _; rw [List.length_cons, h1], fun e he => ?_⟩
       rcases List.mem_cons.1 he with rfl | he
       · have g2 : ¬ smallF (cut1 32 r) < 0 := fun q => g (.inr q)
         obtain ⟨k, a1, a2, a3⟩ := smallF_ok g2
         omega
       · exact h2 e he
theorem read_rng {t : List UInt8} (h : (readC t).2 = 0) : 2 ≤ (shape (readC t).1.v).1.2 → (0 ≤ (readC t).1.a ∧ (readC t).1.a < 100) ∧ (0 ≤ (readC t).1.b ∧ (readC t).1.b < 100) := by
 unfold readC at h ⊢
 cases hn : numsF (shape (verbN (cut1 32 t))).1.2 (cut2 32 t) (cutQ 32 t) with
 | none => rw [hn] at h; cases h
 | some x =>
   obtain ⟨l, r, q⟩ := x
   rw [hn] at h
   obtain ⟨h1, h2⟩ := nums_rng hn
   simp only at h h1 h2 ⊢
   generalize hk : (verbN (cut1 32 t) : Int) = k at *
   split
   · rename_i g; rw [if_pos g] at h; cases h
   · rename_i g
     rw [if_neg g] at h
     have key : 2 ≤ (shape k).1.2 → (0 ≤ l.getD 0 0 ∧ l.getD 0 0 < 100) ∧ (0 ≤ l.getD 1 0 ∧ l.getD 1 0 < 100) := by
      intro hh
      match l, h1, h2 with
      | [], h1, _ => simp at h1; omega
      | [_], h1, _ => simp at h1; omega
      | e :: f :: l, _, h2 => exact ⟨h2 e (by simp), h2 f (by simp)⟩
     unfold restC at h ⊢
     repeat' split
     all_goals first | exact key | (simp_all; done) | skip
theorem print_out {x : Cm} (h2 : 2 ≤ (shape x.v).1.2) (hr : ¬ ((0 ≤ x.a ∧ x.a < 100) ∧ (0 ≤ x.b ∧ x.b < 100))) (W : List (List UInt8)) : printC W x = [] := by
 unfold printC
 split
 · rfl
 · split
   · rfl
   · rename_i g
     exfalso
     have g1 : (readC (outC W x)).2 = 0 := Classical.byContradiction fun h => g (.inl h)
     have g2 : eqC x (readC (outC W x)).1 = true := by
      cases hq : eqC x (readC (outC W x)).1 with
      | true => rfl
      | false => exact absurd (.inr hq) g
     have h3 := read_rng g1
     generalize (readC (outC W x)).1 = y at *
     unfold eqC at g2
     simp only [Bool.and_eq_true, beq_iff_eq] at g2
     obtain ⟨e1, e2, e3, _⟩ := g2
     rw [← e1] at h3
     have := h3 h2
     rw [e2, e3] at hr
     exact hr this
end

/- CmdNumbers: rates; the document's figures; commands of the law. No condition. -/
section
variable [Lk]
theorem amt_print {d : Dc} (hr : d.right = true) : amtF (printF d) = (d, 0) := by
 have hch := print_chars hr
 have hany : (printF d).any isAt = false := by
  cases hq : (printF d).any isAt with
  | false => rfl
  | true =>
    obtain ⟨b, hb, g⟩ := List.any_eq_true.1 hq
    unfold isAt at g
    have g := of_decide_eq_true g
    rcases hch b hb with h | h | h
    · rw [h] at g; exact absurd g (by decide)
    · rw [h] at g; exact absurd g (by decide)
    · unfold isD at h; have h := of_decide_eq_true h; omega
 have ht : ∀ x ∈ [(⟨0, d, -1⟩ : Ln)], TxtLn x := by
  intro x hx
  obtain rfl := List.mem_singleton.1 hx
  exact ⟨⟨Int.le_refl 0, show (0 : Int) < 100 by decide⟩, hr, ⟨Int.le_refl (-1), show (-1 : Int) < 100 by decide⟩⟩
 have hrd := read_printL ht ⟨Nat.le_refl 1, show 1 ≤ 8 by decide⟩
 have hpl : printL [(⟨0, d, -1⟩ : Ln)] = 48 :: 58 :: printF d := by
  unfold printL
  have hb : [(⟨0, d, -1⟩ : Ln)].any badLn = false := by
   rw [List.any_cons, (ht _ (by simp)).bad]; rfl
  rw [if_neg (by rw [hb]; decide)]
  show lineT ⟨0, d, -1⟩ ++ [] = _
  unfold lineT
  rw [if_neg (show ¬ (0 : Int) ≤ -1 by decide)]
  simp
  rfl
 rw [hpl] at hrd
 unfold amtF
 rw [hrd, if_neg (by rw [hany]; decide), if_neg (by simp)]
 rfl
def rateT (d : Dc) : List UInt8 := [114, 97, 116, 101, 32, 49, 32, 50, 32, 48, 32] ++ printF d
def rateC (d : Dc) : Cm := ⟨5, 1, 2, 0, d, [], []⟩
theorem read_rate {d : Dc} (hr : d.right = true) : readC (rateT d) = (rateC d, 0) := by
 have hw : ∀ b ∈ ([114, 97, 116, 101] : List UInt8), b ≠ 32 := by decide
 have e : rateT d = [114, 97, 116, 101] ++ 32 :: ([49] ++ 32 :: ([50] ++ 32 :: ([48] ++ 32 :: printF d))) := rfl
 obtain ⟨c1, c2, c3⟩ := cut_app hw ([49] ++ 32 :: ([50] ++ 32 :: ([48] ++ 32 :: printF d)))
 have hv : verbN [114, 97, 116, 101] = 5 := by decide +kernel
 have hl := print_len hr
 unfold readC
 rw [e, c1, c2, c3, hv]
 have h3 : (shape ((5 : Nat) : Int)).1.2 = 3 := by decide
 rw [h3, nums_cons (by decide) 2, nums_cons (by decide) 1, nums_cons (by decide) 0]
 have s1 : smallF [49] = 1 := by decide +kernel
 have s2 : smallF [50] = 2 := by decide +kernel
 have s0 : smallF [48] = 0 := by decide +kernel
 rw [s1, s2, s0, if_neg (by decide), if_neg (by decide), if_neg (by decide)]
 show (if 400 < _ ∨ 5 = 0 ∨ true ≠ tailF ((5 : Nat) : Int) then (Cm.zero, (2 : Int)) else restC ((5 : Nat) : Int) [1, 2, 0] (printF d)) = _
 rw [if_neg (fun h => by
  rcases h with h | h | h
  · simp only [List.length_append, List.length_cons, List.length_nil] at h; omega
  · omega
  · exact h (by decide))]
 unfold restC
 rw [if_neg (show ¬ ((5 : Nat) : Int) = 1 by decide), if_pos (show ((5 : Nat) : Int) = 5 from rfl), amt_print hr, if_neg (by simp)]
 rfl
theorem rate_ascii {d : Dc} (hr : d.right = true) : ∀ c ∈ rateT d, c.toNat < 128 := by
 intro c hc
 rcases List.mem_append.1 hc with h | h
 · have : ∀ c ∈ ([114, 97, 116, 101, 32, 49, 32, 50, 32, 48, 32] : List UInt8), c.toNat < 128 := by decide
   exact this c h
 · rcases print_chars hr c h with g | g | g
   · rw [g]; decide
   · rw [g]; decide
   · unfold isD at g; have g := of_decide_eq_true g; omega
theorem rate_out {d : Dc} {W : List (List UInt8)} (h1 : W.length = (shape (rateC d).v).1.2) (h2 : okW (rateC d) W) : outC W (rateC d) = rateT d := by
 have h3 : W.length = 3 := h1
 have := W_eq h2 (fun j hj => by
  have : j = 0 ∨ j = 1 ∨ j = 2 := by omega
  rcases this with rfl | rfl | rfl
  · exact ⟨show (0 : Int) ≤ 1 by decide, show (1 : Int) < 100 by decide⟩
  · exact ⟨show (0 : Int) ≤ 2 by decide, show (2 : Int) < 100 by decide⟩
  · exact ⟨show (0 : Int) ≤ 0 by decide, show (0 : Int) < 100 by decide⟩)
 rw [this, h3]
 show joinL 32 _ = _
 simp [joinL, tailT, rateC, rateT]
 rfl
theorem eqC_self (x : Cm) : eqC x x = true := by unfold eqC; simp [eqD_self]
theorem rate_print {d : Dc} (hr : d.right = true) {W : List (List UInt8)} (h1 : W.length = (shape (rateC d).v).1.2) (h2 : okW (rateC d) W) : printC W (rateC d) = rateT d := by
 unfold printC
 rw [rate_out h1 h2, read_rate hr, if_neg (show ¬ (shape (rateC d).v).2 = false from (by decide : ¬ (shape 5).2 = false)), if_neg (by simp [eqC_self])]
theorem rdigA_spec {z : St} (wf : WF z) {n : Int} (h1 : -100 < n) (h2 : n < 1000) : Cw Tryz.prog 42 [.int .i64 n] z fun r s' => K0 z s' ∧ r = sv (DT n) := by
 by_cases h : n < 0
 · have hp : Hp (fun _ => False) z [] [] z := Hp.start _ wf _ (by simp)
   obtain ⟨k, hk⟩ : ∃ k : Nat, -n = k := ⟨(-n).toNat, by omega⟩
   have hil := itoa_le k
   refine Cw.enterS Tryz.func42 rfl rfl ?_
   refine Sm.seqW ?_
   conv => whnf
   refine Sm.live [0] ?_
   conv => whnf
   refine Sm.seq ?_
   refine Sm.seqW ?_
   conv => whnf
   refine Sm.ofW ?_
   conv => whnf
   refine Br.yes (decide_eq_true h) ?_
   conv => whnf
   have e : IntKind.i64.wrap (0 - n) = (k : Int) := by rw [wi64 (by omega) (by omega)]; omega
   rw [e]
   refine hp.call (rdig2_spec hp.wf (show k < 100 by omega)) ?_
   clear hp
   rintro _ s rfl hp _
   conv => whnf
   refine Om.of _ (sv_add [45] (itoaF k) (by simp; omega)) ?_
   conv => whnf
   refine ⟨hp.fr, ?_⟩
   unfold DT
   rw [if_pos h, hk]; rfl
 · obtain ⟨k, rfl⟩ : ∃ k : Nat, n = k := ⟨n.toNat, by omega⟩
   refine (rdig_all 2 k (by omega) (by decide) z wf).mono fun r s' ⟨g1, g2⟩ => ⟨g1, ?_⟩
   rw [g2]; unfold DT; rw [if_neg h]; rfl
theorem craw_spec {z : St} (wf : WF z) (v a b c : Int) : Cw Tryz.prog 43 [.int .i64 v, .int .i64 a, .int .i64 b, .int .i64 c] z fun r s' => K0 z s' ∧ r = (Cm.mk v a b c Dc.zero [] []).val nil24 := by
 have hp : Hp (fun _ => False) z [] [] z := Hp.start _ wf _ (by simp)
 refine Cw.enterS Tryz.func43 rfl rfl ?_
 refine Sm.seqW ?_
 conv => whnf
 refine hp.alloc (cs := Cm.zero.cells nil24) (e := 10) rfl rfl rfl rfl rfl ?_
 clear hp
 intro p8 s hp _
 conv => whnf
 refine Sm.live [0, 1, 2, 3, 8] ?_
 conv => whnf
 refine Sm.seqW ?_
 conv => whnf
 refine hp.storeW (vs := (Cm.mk v a b c Dc.zero [] []).cells nil24) ?h1 .here rfl rfl rfl rfl ?_
 case h1 => simp [putAt, Cm.cells, cmC, Cm.tail, Dc.zero, Value.cells, nil24]
 clear hp
 intro s hp _
 conv => whnf
 refine Sm.live [8] ?_
 conv => whnf
 refine Sm.ofW ?_
 conv => whnf
 refine hp.loadA (l := (Cm.mk v a b c Dc.zero [] []).cells nil24) .d rfl (by rfl) rfl rfl ?_
 conv => whnf
 exact ⟨hp.fr, rfl⟩
theorem lsame_spec {z : St} (wf : WF z) {x : Cm} (h0 : x.ls = []) {κ : Option Nat} {v : Value} (hv : Sln z κ v x.ls) :
  Cw Tryz.prog 40 [x.val v, x.val nil24] z fun r s' => K0 z s' ∧ r = .bool true := by
 obtain ⟨a1, c1, rfl⟩ := hv.shape
 have hl0 : x.ls.length = 0 := by rw [h0]; rfl
 have hne : ∀ n : Int, (!(n == n)) = false := fun n => by rw [beq_self_eq_true]; rfl
 have hp : Hp (fun _ => False) z [slA κ (.slice a1 x.ls.length c1) 6 x.ls.length (lnC x.ls)] [] z := Hp.start _ wf _ (by simp; exact hv)
 refine Cw.enterS Tryz.func40 rfl rfl ?_
 refine Sm.seqW ?_
 conv => whnf
 refine hp.var (cs := x.cells (.slice a1 x.ls.length c1)) (e := 10) rfl rfl ?_
 clear hp
 intro p2 s hp _
 conv => whnf
 refine hp.var (cs := x.cells nil24) (e := 10) rfl rfl ?_
 clear hp
 intro p3 s hp _
 conv => whnf
 refine Sm.live [2, 3] ?_
 conv => whnf
 refine Sm.seq ?_
 refine Sm.seqW ?_
 conv => whnf
 refine hp.load (v := .int .i64 x.v) .d (by rfl) rfl rfl rfl ?_
 conv => whnf
 repeat (first | (refine Br.no (hne x.v) ?_; conv => whnf) | (refine Br.no (hne x.a) ?_; conv => whnf) | (refine Br.no (hne x.b) ?_; conv => whnf) | (refine Br.no (hne x.c) ?_; conv => whnf) | ((first | refine Br.y1 ?_ | refine Br.n1 ?_); conv => whnf))
 refine hp.load (v := .int .i64 x.v) .d (by rfl) rfl rfl rfl ?_
 conv => whnf
 repeat (first | (refine Br.no (hne x.v) ?_; conv => whnf) | (refine Br.no (hne x.a) ?_; conv => whnf) | (refine Br.no (hne x.b) ?_; conv => whnf) | (refine Br.no (hne x.c) ?_; conv => whnf) | ((first | refine Br.y1 ?_ | refine Br.n1 ?_); conv => whnf))
 refine hp.load (v := .int .i64 x.a) .d (by rfl) rfl rfl rfl ?_
 conv => whnf
 repeat (first | (refine Br.no (hne x.v) ?_; conv => whnf) | (refine Br.no (hne x.a) ?_; conv => whnf) | (refine Br.no (hne x.b) ?_; conv => whnf) | (refine Br.no (hne x.c) ?_; conv => whnf) | ((first | refine Br.y1 ?_ | refine Br.n1 ?_); conv => whnf))
 refine hp.load (v := .int .i64 x.a) .d (by rfl) rfl rfl rfl ?_
 conv => whnf
 repeat (first | (refine Br.no (hne x.v) ?_; conv => whnf) | (refine Br.no (hne x.a) ?_; conv => whnf) | (refine Br.no (hne x.b) ?_; conv => whnf) | (refine Br.no (hne x.c) ?_; conv => whnf) | ((first | refine Br.y1 ?_ | refine Br.n1 ?_); conv => whnf))
 refine hp.load (v := .int .i64 x.b) .d (by rfl) rfl rfl rfl ?_
 conv => whnf
 repeat (first | (refine Br.no (hne x.v) ?_; conv => whnf) | (refine Br.no (hne x.a) ?_; conv => whnf) | (refine Br.no (hne x.b) ?_; conv => whnf) | (refine Br.no (hne x.c) ?_; conv => whnf) | ((first | refine Br.y1 ?_ | refine Br.n1 ?_); conv => whnf))
 refine hp.load (v := .int .i64 x.b) .d (by rfl) rfl rfl rfl ?_
 conv => whnf
 repeat (first | (refine Br.no (hne x.v) ?_; conv => whnf) | (refine Br.no (hne x.a) ?_; conv => whnf) | (refine Br.no (hne x.b) ?_; conv => whnf) | (refine Br.no (hne x.c) ?_; conv => whnf) | ((first | refine Br.y1 ?_ | refine Br.n1 ?_); conv => whnf))
 refine hp.load (v := .int .i64 x.c) .d (by rfl) rfl rfl rfl ?_
 conv => whnf
 repeat (first | (refine Br.no (hne x.v) ?_; conv => whnf) | (refine Br.no (hne x.a) ?_; conv => whnf) | (refine Br.no (hne x.b) ?_; conv => whnf) | (refine Br.no (hne x.c) ?_; conv => whnf) | ((first | refine Br.y1 ?_ | refine Br.n1 ?_); conv => whnf))
 refine hp.load (v := .int .i64 x.c) .d (by rfl) rfl rfl rfl ?_
 conv => whnf
 repeat (first | (refine Br.no (hne x.v) ?_; conv => whnf) | (refine Br.no (hne x.a) ?_; conv => whnf) | (refine Br.no (hne x.b) ?_; conv => whnf) | (refine Br.no (hne x.c) ?_; conv => whnf) | ((first | refine Br.y1 ?_ | refine Br.n1 ?_); conv => whnf))
 refine hp.loadA (l := x.amt.cells) .d rfl (by rfl) rfl rfl ?_
 conv => whnf
 repeat (first | (refine Br.no (hne x.v) ?_; conv => whnf) | (refine Br.no (hne x.a) ?_; conv => whnf) | (refine Br.no (hne x.b) ?_; conv => whnf) | (refine Br.no (hne x.c) ?_; conv => whnf) | ((first | refine Br.y1 ?_ | refine Br.n1 ?_); conv => whnf))
 refine hp.loadA (l := x.amt.cells) .d rfl (by rfl) rfl rfl ?_
 conv => whnf
 repeat (first | (refine Br.no (hne x.v) ?_; conv => whnf) | (refine Br.no (hne x.a) ?_; conv => whnf) | (refine Br.no (hne x.b) ?_; conv => whnf) | (refine Br.no (hne x.c) ?_; conv => whnf) | ((first | refine Br.y1 ?_ | refine Br.n1 ?_); conv => whnf))
 refine Om.of _ (dc_ne x.amt x.amt _) ?_
 conv => whnf
 rw [eqD_self]
 repeat (first | (refine Br.no (hne x.v) ?_; conv => whnf) | (refine Br.no (hne x.a) ?_; conv => whnf) | (refine Br.no (hne x.b) ?_; conv => whnf) | (refine Br.no (hne x.c) ?_; conv => whnf) | ((first | refine Br.y1 ?_ | refine Br.n1 ?_); conv => whnf))
 refine hp.load (v := sv x.txt) .d (by rfl) rfl rfl rfl ?_
 conv => whnf
 repeat (first | (refine Br.no (hne x.v) ?_; conv => whnf) | (refine Br.no (hne x.a) ?_; conv => whnf) | (refine Br.no (hne x.b) ?_; conv => whnf) | (refine Br.no (hne x.c) ?_; conv => whnf) | ((first | refine Br.y1 ?_ | refine Br.n1 ?_); conv => whnf))
 refine hp.load (v := sv x.txt) .d (by rfl) rfl rfl rfl ?_
 conv => whnf
 repeat (first | (refine Br.no (hne x.v) ?_; conv => whnf) | (refine Br.no (hne x.a) ?_; conv => whnf) | (refine Br.no (hne x.b) ?_; conv => whnf) | (refine Br.no (hne x.c) ?_; conv => whnf) | ((first | refine Br.y1 ?_ | refine Br.n1 ?_); conv => whnf))
 refine Om.of _ (sv_ne x.txt x.txt) ?_
 conv => whnf
 rw [beq_self_eq_true]
 repeat (first | (refine Br.no (hne x.v) ?_; conv => whnf) | (refine Br.no (hne x.a) ?_; conv => whnf) | (refine Br.no (hne x.b) ?_; conv => whnf) | (refine Br.no (hne x.c) ?_; conv => whnf) | ((first | refine Br.y1 ?_ | refine Br.n1 ?_); conv => whnf))
 refine hp.load (v := .slice a1 x.ls.length c1) .d (by rfl) rfl rfl rfl ?_
 conv => whnf
 repeat (first | (refine Br.no (hne x.v) ?_; conv => whnf) | (refine Br.no (hne x.a) ?_; conv => whnf) | (refine Br.no (hne x.b) ?_; conv => whnf) | (refine Br.no (hne x.c) ?_; conv => whnf) | ((first | refine Br.y1 ?_ | refine Br.n1 ?_); conv => whnf))
 refine hp.load (v := nil24) .d (by rfl) rfl rfl rfl ?_
 conv => whnf
 repeat (first | (refine Br.no (hne x.v) ?_; conv => whnf) | (refine Br.no (hne x.a) ?_; conv => whnf) | (refine Br.no (hne x.b) ?_; conv => whnf) | (refine Br.no (hne x.c) ?_; conv => whnf) | ((first | refine Br.y1 ?_ | refine Br.n1 ?_); conv => whnf))
 rw [hl0]
 repeat ((first | refine Br.y1 ?_ | refine Br.n1 ?_); conv => whnf)
 refine Sm.live [2, 3, 54] ?_
 conv => whnf
 refine Sm.ofW ?_
 conv => whnf
 repeat ((first | refine Br.y1 ?_ | refine Br.n1 ?_); conv => whnf)
 refine Sm.seq ?_
 refine Sm.seqW ?_
 conv => whnf
 refine hp.load (v := .slice a1 x.ls.length c1) .d (by rfl) rfl rfl rfl ?_
 conv => whnf
 rw [hl0]
 refine Sm.live [2, 3, 57, 58] ?_
 conv => whnf
 refine Sm.block ?_
 refine Sm.loop ?_
 refine Lp.ofS (α := Unit) (fun _ => [(2, .pointer (some ⟨p2, 0, none⟩)), (3, .pointer (some ⟨p3, 0, none⟩)), (57, .int .i64 0), (58, .int .i64 0)])
  (fun _ s' => Hp (fun _ => False) z [slA κ (.slice a1 x.ls.length c1) 6 x.ls.length (lnC x.ls)] [blkA p3 p3 (x.cells nil24) 10, blkA p2 p2 (x.cells (.slice a1 x.ls.length c1)) 10] s') (fun _ => 0) ?_ () (subK_ok (by refine ⟨rfl, rfl, rfl, rfl, trivial⟩)) hp
 clear hp
 rintro ⟨⟩ s hp
 refine Sm.seqW ?_
 conv => whnf
 refine Sm.live [2, 3, 57, 58, 59] ?_
 conv => whnf
 refine Sm.seq ?_
 refine Sm.ofW ?_
 conv => whnf
 repeat ((first | refine Br.y1 ?_ | refine Br.n1 ?_); conv => whnf)
 refine Sm.seqW ?_
 conv => whnf
 refine Sm.live [4] ?_
 conv => whnf
 refine Sm.ofW ?_
 conv => whnf
 exact ⟨hp.fr, rfl⟩
end

/- CmdNumbers walked. No condition but what it names. -/
section
variable [Lk]
def kJ (j : Nat) : Nat := [1, 2, 3, 5, 6, 9].getD j 0
theorem kJ_ok : ∀ j : _root_.Fin 6, kJ j.val < 13 ∧ (shape ((kJ j.val + 1 : Nat) : Int)).1.2 = (if j.val = 0 then 3 else 2) ∧ tailF ((kJ j.val + 1 : Nat) : Int) = false ∧ (kJ j.val ≠ 0 ∧ kJ j.val ≠ 4 ∧ kJ j.val ≠ 8) := by decide
def xN (k p q : Nat) (C : Int) : Cm := ⟨((k + 1 : Nat) : Int), (p : Int) - 15, (q : Int) - 15, C, Dc.zero, [], []⟩
def inN (p q : Nat) : Prop := (15 ≤ p ∧ p < 115) ∧ 15 ≤ q ∧ q < 115
instance inN_dec (p q : Nat) : Decidable (inN p q) := by unfold inN; exact inferInstance
structure NumS (k p q : Nat) (C : Int) (S : List UInt8) : Prop where
 len : S.length ≤ 30
 vb : verbN (cut1 32 S) ≠ 5
 rd : readC S = if inN p q then (xN k p q C, 0) else (Cm.zero, 2)
 out : inN p q → ∀ W, W.length = (shape ((k + 1 : Nat) : Int)).1.2 → okW (xN k p q C) W → outC W (xN k p q C) = S
theorem tail_none {k : Nat} (k9 : k ≠ 0 ∧ k ≠ 4 ∧ k ≠ 8) (p q : Nat) (C : Int) : tailT (xN k p q C) = [] := by
 unfold tailT xN
 simp only
 rw [if_neg (by omega), if_neg (by omega), if_neg (by omega)]
theorem numS_two {k p q : Nat} (hk : k < 13) (h2 : (shape ((k + 1 : Nat) : Int)).1.2 = 2) (ht : tailF ((k + 1 : Nat) : Int) = false) (k9 : k ≠ 0 ∧ k ≠ 4 ∧ k ≠ 8) (hp : p < 130) (hq : q < 130) :
  NumS k p q 0 ((shape ((k + 1 : Nat) : Int)).1.1 ++ [32] ++ DT ((p : Int) - 15) ++ [32] ++ DT ((q : Int) - 15)) := by
 obtain ⟨p1, p2, p3, p4⟩ := dt_ok ⟨p, hp⟩
 obtain ⟨q1, q2, q3, q4⟩ := dt_ok ⟨q, hq⟩
 simp only at p1 p2 p3 p4 q1 q2 q3 q4
 have hwl := shape_word ((k + 1 : Nat) : Int)
 have hA : ∀ b ∈ DT ((p : Int) - 15), b ≠ 32 := fun b hb => by simpa using List.all_eq_true.1 p2 b hb
 have hB : ∀ b ∈ DT ((q : Int) - 15), b ≠ 32 := fun b hb => by simpa using List.all_eq_true.1 q2 b hb
 have e : (shape ((k + 1 : Nat) : Int)).1.1 ++ [32] ++ DT ((p : Int) - 15) ++ [32] ++ DT ((q : Int) - 15) = (shape ((k + 1 : Nat) : Int)).1.1 ++ 32 :: (DT ((p : Int) - 15) ++ 32 :: DT ((q : Int) - 15)) := by simp
 refine ⟨by simp only [List.length_append, List.length_cons, List.length_nil]; omega, by
  rw [e]
  obtain ⟨w1, w2⟩ := word_ok ⟨k, hk⟩
  rw [(cut_app (fun b hb => by simpa using List.all_eq_true.1 w2 b hb) _).1, w1]
  show k + 1 ≠ 5
  omega, ?_, ?_⟩
 · rw [e, read_two hk h2 ht k9 hA hB p3 q3, p1, q1]
   by_cases gp : 15 ≤ p ∧ p < 115
   · by_cases gq : 15 ≤ q ∧ q < 115
     · rw [if_pos gp, if_pos gq, if_neg (by omega), if_pos ⟨gp, gq⟩]; rfl
     · rw [if_pos gp, if_neg gq, if_pos (.inr (by decide)), if_neg (fun h => gq h.2)]
   · rw [if_neg gp, if_pos (.inl (by decide)), if_neg (fun h => gp h.1)]
 · rintro ⟨gp, gq⟩ W hW ok
   rw [h2] at hW
   have hWe := W_eq ok (fun j hj => by
    have : j = 0 ∨ j = 1 := by omega
    rcases this with rfl | rfl
    · exact ⟨show 0 ≤ (p : Int) - 15 by omega, show (p : Int) - 15 < 100 by omega⟩
    · exact ⟨show 0 ≤ (q : Int) - 15 by omega, show (q : Int) - 15 < 100 by omega⟩)
   rw [hW] at hWe
   rw [hWe, e, p4 gp, q4 gq]
   unfold outC
   rw [tail_none k9]
   have e1 : ((p : Int) - 15).toNat = p - 15 := by omega
   have e2 : ((q : Int) - 15).toNat = q - 15 := by omega
   show joinL 32 ((shape ((k + 1 : Nat) : Int)).1.1 :: ([itoaF ((p : Int) - 15).toNat, itoaF ((q : Int) - 15).toNat] ++ [])) = _
   rw [e1, e2]
   simp [joinL]
theorem numS_three {k p q C : Nat} (hk : k < 13) (h2 : (shape ((k + 1 : Nat) : Int)).1.2 = 3) (ht : tailF ((k + 1 : Nat) : Int) = false) (k9 : k ≠ 0 ∧ k ≠ 4 ∧ k ≠ 8) (hp : p < 130) (hq : q < 130) (hC : C < 100) :
  NumS k p q (C : Int) ((shape ((k + 1 : Nat) : Int)).1.1 ++ [32] ++ DT ((p : Int) - 15) ++ [32] ++ DT ((q : Int) - 15) ++ [32] ++ itoaF C) := by
 obtain ⟨p1, p2, p3, p4⟩ := dt_ok ⟨p, hp⟩
 obtain ⟨q1, q2, q3, q4⟩ := dt_ok ⟨q, hq⟩
 simp only at p1 p2 p3 p4 q1 q2 q3 q4
 have hwl := shape_word ((k + 1 : Nat) : Int)
 have hil := itoa_le C
 have hA : ∀ b ∈ DT ((p : Int) - 15), b ≠ 32 := fun b hb => by simpa using List.all_eq_true.1 p2 b hb
 have hB : ∀ b ∈ DT ((q : Int) - 15), b ≠ 32 := fun b hb => by simpa using List.all_eq_true.1 q2 b hb
 have hCC : ∀ b ∈ itoaF C, b ≠ 32 := fun b hb => isD_no (itoaF_isD C hC b hb) (by decide)
 have e : (shape ((k + 1 : Nat) : Int)).1.1 ++ [32] ++ DT ((p : Int) - 15) ++ [32] ++ DT ((q : Int) - 15) ++ [32] ++ itoaF C = (shape ((k + 1 : Nat) : Int)).1.1 ++ 32 :: (DT ((p : Int) - 15) ++ 32 :: (DT ((q : Int) - 15) ++ 32 :: itoaF C)) := by simp
 refine ⟨by simp only [List.length_append, List.length_cons, List.length_nil]; omega, by
  rw [e]
  obtain ⟨w1, w2⟩ := word_ok ⟨k, hk⟩
  rw [(cut_app (fun b hb => by simpa using List.all_eq_true.1 w2 b hb) _).1, w1]
  show k + 1 ≠ 5
  omega, ?_, ?_⟩
 · rw [e, read_three hk h2 ht k9 hA hB hCC p3 q3 (by omega), p1, q1, smallF_itoa C hC]
   by_cases gp : 15 ≤ p ∧ p < 115
   · by_cases gq : 15 ≤ q ∧ q < 115
     · rw [if_pos gp, if_pos gq, if_neg (by omega), if_pos ⟨gp, gq⟩]; rfl
     · rw [if_pos gp, if_neg gq, if_pos (.inr (.inl (by decide))), if_neg (fun h => gq h.2)]
   · rw [if_neg gp, if_pos (.inl (by decide)), if_neg (fun h => gp h.1)]
 · rintro ⟨gp, gq⟩ W hW ok
   rw [h2] at hW
   have hWe := W_eq ok (fun j hj => by
    have : j = 0 ∨ j = 1 ∨ j = 2 := by omega
    rcases this with rfl | rfl | rfl
    · exact ⟨show 0 ≤ (p : Int) - 15 by omega, show (p : Int) - 15 < 100 by omega⟩
    · exact ⟨show 0 ≤ (q : Int) - 15 by omega, show (q : Int) - 15 < 100 by omega⟩
    · exact ⟨show 0 ≤ (C : Int) by omega, show (C : Int) < 100 by omega⟩)
   rw [hW] at hWe
   rw [hWe, e, p4 gp, q4 gq]
   unfold outC
   rw [tail_none k9]
   have e1 : ((p : Int) - 15).toNat = p - 15 := by omega
   have e2 : ((q : Int) - 15).toNat = q - 15 := by omega
   show joinL 32 ((shape ((k + 1 : Nat) : Int)).1.1 :: ([itoaF ((p : Int) - 15).toNat, itoaF ((q : Int) - 15).toNat, itoaF ((C : Int)).toNat] ++ [])) = _
   rw [e1, e2, Int.toNat_natCast]
   simp [joinL]
theorem cmdNumbers_walk {s0 : St} (wf : WF s0) (hg : Gs s0) (ht : Gt s0) {a b c n verb : Int} (ha : inR a) (hb : inR b) (hc : inR c) (hn : inR n) (hv : inR verb) :
  Cw Tryz.prog 11 [.int .i64 a, .int .i64 b, .int .i64 c, .int .i64 n, .int .i64 verb] s0 fun r _ => r = .bool true := by
 have hp : Hp (fun _ => False) s0 [] [] s0 := Hp.start _ wf _ (by simp)
 refine Cw.enterS Tryz.func11 rfl rfl ?_
 refine Sm.seqW ?_
 conv => whnf
 refine Sm.live [0, 1, 2, 3, 4] ?_
 conv => whnf
 refine Sm.seqW ?_
 conv => whnf
 refine (pick_spec _ hv (m := 6) (by decide) (by decide)).mono ?_
 rintro _ s1 ⟨h1, rfl⟩
 obtain rfl := h1.symm
 conv => whnf
 obtain ⟨j, hj, hj6⟩ := pickN verb (n := 6) (by decide)
 have hj : verb % 6 = (j : Int) := hj
 rw [hj]
 have h6 : j = 0 ∨ j = 1 ∨ j = 2 ∨ j = 3 ∨ j = 4 ∨ j = 5 := by omega
 obtain ⟨k13, kcnt, ktl, k9⟩ := kJ_ok ⟨j, hj6⟩
 simp only at k13 kcnt ktl k9
 refine Sm.live [0, 1, 2, 3, 4] ?_
 conv => whnf
 refine Sm.seqW ?_
 conv => whnf
 refine Om.of (sv (shape ((kJ j + 1 : Nat) : Int)).1.1) (by rcases h6 with rfl | rfl | rfl | rfl | rfl | rfl <;> kernel_rfl) ?_
 conv => whnf
 refine Sm.live [0, 1, 2, 3, 4, 11] ?_
 conv => whnf
 refine Sm.seqW ?_
 conv => whnf
 refine ⟨[0, 0, 3, 0, 8, 24, 0, 88, 216, 511, 0, 2047], by decide +kernel, by decide +kernel, ?_⟩
 conv => whnf
 refine Om.of (.int .i64 ((kJ j + 1 : Nat) : Int)) (by rcases h6 with rfl | rfl | rfl | rfl | rfl | rfl <;> kernel_rfl) ?_
 conv => whnf
 refine (pick_spec _ ha (m := 130) (by decide) (by decide)).mono ?_
 rintro _ s1 ⟨h1, rfl⟩
 obtain rfl := h1.symm
 conv => whnf
 refine hp.dkS ?_
 conv => whnf
 obtain ⟨p, hp1, hp2⟩ := pickN a (n := 130) (by decide)
 have hp1 : a % 130 = (p : Int) := hp1
 rw [hp1]
 have ep : IntKind.i64.wrap ((p : Int) - 15) = (p : Int) - 15 := wi64 (by omega) (by omega)
 rw [ep]
 refine (pick_spec _ hb (m := 130) (by decide) (by decide)).mono ?_
 rintro _ s1 ⟨h1, rfl⟩
 obtain rfl := h1.symm
 conv => whnf
 refine hp.dkS ?_
 conv => whnf
 obtain ⟨q, hq1, hq2⟩ := pickN b (n := 130) (by decide)
 have hq1 : b % 130 = (q : Int) := hq1
 rw [hq1]
 have eq' : IntKind.i64.wrap ((q : Int) - 15) = (q : Int) - 15 := wi64 (by omega) (by omega)
 rw [eq']
 refine hp.rst.alloc (cs := Cm.zero.cells nil24) (e := 10) rfl rfl rfl rfl rfl ?_
 intro p12 s1 h1 k1
 conv => whnf
 refine hp.dkN h1 k1 ?_
 clear hp h1 k1
 intro s hp
 conv => whnf
 refine hp.rst.storeW (vs := (Cm.mk ((kJ j + 1 : Nat) : Int) ((p : Int) - 15) ((q : Int) - 15) 0 Dc.zero [] []).cells nil24) ?h1 .here rfl rfl rfl rfl ?_
 case h1 => simp [putAt, Cm.cells, cmC, Cm.tail, Dc.zero, Value.cells, nil24]
 intro s1 h1 l1
 conv => whnf
 refine hp.dkW h1 l1 ?_
 clear hp h1 l1
 intro s hp
 conv => whnf
 refine Sm.live [2, 3, 4, 11, 12] ?_
 conv => whnf
 obtain ⟨p1, p2, p3, p4⟩ := dt_ok ⟨p, hp2⟩
 obtain ⟨q1, q2, q3, q4⟩ := dt_ok ⟨q, hq2⟩
 simp only at p1 p2 p3 p4 q1 q2 q3 q4
 have hwl := shape_word ((kJ j + 1 : Nat) : Int)
 refine Sm.seqW ?_
 conv => whnf
 refine ⟨[0, 1, 0, 4, 12, 31, 63, 0, 128, 412, 1023, 2047], by decide +kernel, by decide +kernel, ?_⟩
 conv => whnf
 refine Om.of _ (sv_add (shape ((kJ j + 1 : Nat) : Int)).1.1 [32] (by simp only [List.length_cons, List.length_nil]; omega)) ?_
 conv => whnf
 refine hp.load (v := .int .i64 ((p : Int) - 15)) .d (by rfl) rfl rfl rfl ?_
 conv => whnf
 refine hp.rst.call (rdigA_spec hp.rst.wf (n := (p : Int) - 15) (by omega) (by omega)) ?_
 rintro _ s1 rfl h1 k1
 conv => whnf
 refine hp.dkN h1 k1 ?_
 clear hp h1 k1
 intro s hp
 conv => whnf
 refine Om.of _ (sv_add ((shape ((kJ j + 1 : Nat) : Int)).1.1 ++ [32]) (DT ((p : Int) - 15)) (by simp only [List.length_append, List.length_cons, List.length_nil]; omega)) ?_
 conv => whnf
 refine Om.of _ (sv_add ((shape ((kJ j + 1 : Nat) : Int)).1.1 ++ [32] ++ DT ((p : Int) - 15)) [32] (by simp only [List.length_append, List.length_cons, List.length_nil]; omega)) ?_
 conv => whnf
 refine hp.load (v := .int .i64 ((q : Int) - 15)) .d (by rfl) rfl rfl rfl ?_
 conv => whnf
 refine hp.rst.call (rdigA_spec hp.rst.wf (n := (q : Int) - 15) (by omega) (by omega)) ?_
 rintro _ s1 rfl h1 k1
 conv => whnf
 refine hp.dkN h1 k1 ?_
 clear hp h1 k1
 intro s hp
 conv => whnf
 refine Om.of _ (sv_add ((shape ((kJ j + 1 : Nat) : Int)).1.1 ++ [32] ++ DT ((p : Int) - 15) ++ [32]) (DT ((q : Int) - 15)) (by simp only [List.length_append, List.length_cons, List.length_nil]; omega)) ?_
 conv => whnf
 refine Sm.live [2, 3, 4, 12, 13] ?_
 conv => whnf
 have hwlen : ((shape ((kJ j + 1 : Nat) : Int)).1.1 ++ [32] ++ DT ((p : Int) - 15) ++ [32] ++ DT ((q : Int) - 15)).length ≤ 20 := by simp only [List.length_append, List.length_cons, List.length_nil]; omega
 generalize kJ j = k at *
 refine Sm.seq (Sm.mono (Q := fun e' L' s' => e' = .normal ∧ ∃ (C : Int) (S : List UInt8), 0 ≤ C ∧ C < 100 ∧ NumS k p q C S ∧ Hp (fun _ => False) s0 [] [blkA p12 p12 ((xN k p q C).cells nil24) 10] s' ∧ Sub [(3, .int .i64 n), (12, .pointer (some ⟨p12, 0, none⟩)), (13, sv S)] L') ?_ ?_)
 · refine Sm.seqW ?_
   conv => whnf
   refine Sm.live [2, 3, 12, 13, 48] ?_
   conv => whnf
   refine Sm.ofW ?_
   conv => whnf
   by_cases hj0 : j = 0
   · rw [if_pos hj0] at kcnt
     refine Br.yes (beq_iff_eq.2 (by omega)) ?_
     conv => whnf
     refine (pick_spec _ hc (m := 100) (by decide) (by decide)).mono ?_
     rintro _ s1 ⟨h1, rfl⟩
     obtain rfl := h1.symm
     conv => whnf
     obtain ⟨C, hC1, hC2⟩ := pickN c (n := 100) (by decide)
     have hC1 : c % 100 = (C : Int) := hC1
     rw [hC1]
     refine hp.store (v := .int .i64 (C : Int)) (off := 3) .d (by show 3 < 10; decide) rfl rfl rfl rfl ?_
     clear hp
     intro s hp _
     replace hp : Hp (fun _ => False) s0 [] [blkA p12 p12 ((xN k p q (C : Int)).cells nil24) 10] s := hp
     conv => whnf
     have hil := itoa_le C
     refine Om.of _ (sv_add ((shape ((k + 1 : Nat) : Int)).1.1 ++ [32] ++ DT ((p : Int) - 15) ++ [32] ++ DT ((q : Int) - 15)) [32] (by simp only [List.length_cons, List.length_nil]; omega)) ?_
     conv => whnf
     refine hp.load (v := .int .i64 (C : Int)) .d (by rfl) rfl rfl rfl ?_
     conv => whnf
     refine hp.call (rdig2_spec hp.wf hC2) ?_
     clear hp
     rintro _ s rfl hp _
     conv => whnf
     refine Om.of _ (sv_add ((shape ((k + 1 : Nat) : Int)).1.1 ++ [32] ++ DT ((p : Int) - 15) ++ [32] ++ DT ((q : Int) - 15) ++ [32]) (itoaF C) (by rw [List.length_append]; simp only [List.length_cons, List.length_nil]; omega)) ?_
     conv => whnf
     exact ⟨rfl, C, _, by omega, by omega, numS_three k13 kcnt ktl k9 hp2 hq2 hC2, hp, subK_ok ⟨rfl, rfl, rfl, trivial⟩⟩
   · rw [if_neg hj0] at kcnt
     refine Br.no (beq_eq_false_iff_ne.2 (by omega)) ?_
     conv => whnf
     exact ⟨rfl, 0, _, by decide, by decide, numS_two k13 kcnt ktl k9 hp2 hq2, hp, subK_ok ⟨rfl, rfl, rfl, trivial⟩⟩
 clear hp
 rintro e' L' s ⟨rfl, C, S, hC1, hC2, hS, hp, hs_⟩
 refine Sm.weak _ hs_ ?_
 clear hs_
 have hSl := hS.len
 have hmx := readC_c S
 refine Sm.seqW ?_
 conv => whnf
 refine hp.call (cread_spec hp.wf (hg.keep hp.fr) S (by omega) (fun h => absurd h hS.vb)) ?_
 intro r s hr h1 k1
 obtain ⟨w, rfl, how_⟩ := hr
 obtain ⟨κ, hp⟩ := hp.on k1 how_
 clear h1 k1 how_
 obtain ⟨aw, cw, rfl⟩ := (hp.slF (κ := κ) (v := w) .d).shape
 have hrd := hS.rd
 generalize readC S = A at *
 conv => whnf
 refine hp.alloc (cs := Cm.zero.cells nil24) (e := 10) rfl rfl rfl rfl rfl ?_
 clear hp
 intro p14 s hp _
 conv => whnf
 refine hp.storeW (vs := A.1.cells (.slice aw A.1.ls.length cw)) rfl .d csx rfl rfl rfl ?_
 clear hp
 intro s hp _
 conv => whnf
 refine Sm.live [3, 12, 13, 14, 15] ?_
 conv => whnf
 refine Sm.seqC (fun e' L' s' => e' = .normal ∧ s' = s ∧ Sub [(3, .int .i64 n), (12, .pointer (some ⟨p12, 0, none⟩)), (13, sv S), (14, .pointer (some ⟨p14, 0, none⟩)), (15, .int .i64 A.2), (16, .bool (decide (inN p q)))] L') ?_ ?_
 · conv => whnf
   refine hp.load (v := .int .i64 ((p : Int) - 15)) .d (by rfl) rfl rfl rfl ?_
   conv => whnf
   by_cases g1 : 15 ≤ p
   · have w1 : decide (((p : Int) - 15) ≥ 0) = true := decide_eq_true (by omega)
     repeat (first | (refine Br.yes w1 ?_; conv => whnf) | ((first | refine Br.y1 ?_ | refine Br.n1 ?_); conv => whnf))
     refine hp.load (v := .int .i64 ((p : Int) - 15)) .d (by rfl) rfl rfl rfl ?_
     conv => whnf
     repeat (first | (refine Br.yes w1 ?_; conv => whnf) | ((first | refine Br.y1 ?_ | refine Br.n1 ?_); conv => whnf))
     by_cases g2 : p < 115
     · have w2 : decide (((p : Int) - 15) ≤ 99) = true := decide_eq_true (by omega)
       repeat (first | (refine Br.yes w1 ?_; conv => whnf) | (refine Br.yes w2 ?_; conv => whnf) | ((first | refine Br.y1 ?_ | refine Br.n1 ?_); conv => whnf))
       refine hp.load (v := .int .i64 ((q : Int) - 15)) .d (by rfl) rfl rfl rfl ?_
       conv => whnf
       repeat (first | (refine Br.yes w1 ?_; conv => whnf) | (refine Br.yes w2 ?_; conv => whnf) | ((first | refine Br.y1 ?_ | refine Br.n1 ?_); conv => whnf))
       by_cases g3 : 15 ≤ q
       · have w3 : decide (((q : Int) - 15) ≥ 0) = true := decide_eq_true (by omega)
         repeat (first | (refine Br.yes w1 ?_; conv => whnf) | (refine Br.yes w2 ?_; conv => whnf) | (refine Br.yes w3 ?_; conv => whnf) | ((first | refine Br.y1 ?_ | refine Br.n1 ?_); conv => whnf))
         refine hp.load (v := .int .i64 ((q : Int) - 15)) .d (by rfl) rfl rfl rfl ?_
         conv => whnf
         repeat (first | (refine Br.yes w1 ?_; conv => whnf) | (refine Br.yes w2 ?_; conv => whnf) | (refine Br.yes w3 ?_; conv => whnf) | ((first | refine Br.y1 ?_ | refine Br.n1 ?_); conv => whnf))
         by_cases g4 : q < 115
         · have w4 : decide (((q : Int) - 15) ≤ 99) = true := decide_eq_true (by omega)
           repeat (first | (refine Br.yes w1 ?_; conv => whnf) | (refine Br.yes w2 ?_; conv => whnf) | (refine Br.yes w3 ?_; conv => whnf) | (refine Br.yes w4 ?_; conv => whnf) | ((first | refine Br.y1 ?_ | refine Br.n1 ?_); conv => whnf))
           exact ⟨rfl, rfl, subK_ok ⟨rfl, rfl, rfl, rfl, rfl, congrArg (fun x => some (Value.bool x)) (w4.trans (decide_eq_true ⟨⟨g1, g2⟩, g3, g4⟩).symm), trivial⟩⟩
         · have w4 : decide (((q : Int) - 15) ≤ 99) = false := decide_eq_false (by omega)
           repeat (first | (refine Br.yes w1 ?_; conv => whnf) | (refine Br.yes w2 ?_; conv => whnf) | (refine Br.yes w3 ?_; conv => whnf) | (refine Br.no w4 ?_; conv => whnf) | ((first | refine Br.y1 ?_ | refine Br.n1 ?_); conv => whnf))
           exact ⟨rfl, rfl, subK_ok ⟨rfl, rfl, rfl, rfl, rfl, congrArg (fun x => some (Value.bool x)) (by have hno : decide (inN p q) = false := decide_eq_false (fun h => by obtain ⟨h1, h2⟩ := h; omega); first | exact hno.symm | exact w4.trans hno.symm), trivial⟩⟩
       · have w3 : decide (((q : Int) - 15) ≥ 0) = false := decide_eq_false (by omega)
         repeat (first | (refine Br.yes w1 ?_; conv => whnf) | (refine Br.yes w2 ?_; conv => whnf) | (refine Br.no w3 ?_; conv => whnf) | ((first | refine Br.y1 ?_ | refine Br.n1 ?_); conv => whnf))
         exact ⟨rfl, rfl, subK_ok ⟨rfl, rfl, rfl, rfl, rfl, congrArg (fun x => some (Value.bool x)) (by have hno : decide (inN p q) = false := decide_eq_false (fun h => by obtain ⟨h1, h2⟩ := h; omega); first | exact hno.symm | exact w3.trans hno.symm), trivial⟩⟩
     · have w2 : decide (((p : Int) - 15) ≤ 99) = false := decide_eq_false (by omega)
       repeat (first | (refine Br.yes w1 ?_; conv => whnf) | (refine Br.no w2 ?_; conv => whnf) | ((first | refine Br.y1 ?_ | refine Br.n1 ?_); conv => whnf))
       exact ⟨rfl, rfl, subK_ok ⟨rfl, rfl, rfl, rfl, rfl, congrArg (fun x => some (Value.bool x)) (by have hno : decide (inN p q) = false := decide_eq_false (fun h => by obtain ⟨h1, h2⟩ := h; omega); first | exact hno.symm | exact w2.trans hno.symm), trivial⟩⟩
   · have w1 : decide (((p : Int) - 15) ≥ 0) = false := decide_eq_false (by omega)
     repeat (first | (refine Br.no w1 ?_; conv => whnf) | ((first | refine Br.y1 ?_ | refine Br.n1 ?_); conv => whnf))
     exact ⟨rfl, rfl, subK_ok ⟨rfl, rfl, rfl, rfl, rfl, congrArg (fun x => some (Value.bool x)) (by have hno : decide (inN p q) = false := decide_eq_false (fun h => by obtain ⟨h1, h2⟩ := h; omega); first | exact hno.symm | exact w1.trans hno.symm), trivial⟩⟩
 rintro e' L' s' ⟨rfl, h1, hs_⟩
 obtain rfl := h1.symm
 refine Sm.weak _ hs_ ?_
 clear hs_
 have hsh : (shape ((k + 1 : Nat) : Int)).2 = true := by
  unfold shape
  rw [if_neg (by omega)]
 have hv5 : ∀ W, verbN (cut1 32 (outC W (xN k p q C))) ≠ 5 := by
  intro W h
  have := out_verb (x := xN k p q C) hsh W
  rw [h] at this
  have : (5 : Int) = ((k + 1 : Nat) : Int) := this
  omega
 have hnr : ∀ j, j < 3 → -1000 < [(xN k p q C).a, (xN k p q C).b, (xN k p q C).c].getD j 0 ∧ [(xN k p q C).a, (xN k p q C).b, (xN k p q C).c].getD j 0 < 1000 := by
  intro j hj
  have : j = 0 ∨ j = 1 ∨ j = 2 := by omega
  rcases this with rfl | rfl | rfl
  · exact ⟨show -1000 < (p : Int) - 15 by omega, show (p : Int) - 15 < 1000 by omega⟩
  · exact ⟨show -1000 < (q : Int) - 15 by omega, show (q : Int) - 15 < 1000 by omega⟩
  · exact ⟨show -1000 < C by omega, show C < 1000 by omega⟩
 refine Sm.seq ?_
 refine Sm.seqC (fun e' L' s' => e' = .normal ∧ (∃ F, Hp (fun _ => False) s0 [] F s') ∧ Sub [(3, .int .i64 n), (120, .bool false)] L') ?_ ?_
 · conv => whnf
   refine ⟨[0, 1, 3, 7, 15, 7, 63, 127, 255, 511, 1023, 2047, 2047, 6143, 2047, 18431, 2047, 67583, 2047, 264191, 1046527, 2097151, 4194303, 8388607, 16777215, 33554431, 16777215, 134217727, 268435455, 536870911, 1073741823, 2147483647, 4294967295, 8589934591, 17179869183, 34359738367, 68719476735, 137438953471, 274877906943, 549755813887], by decide +kernel, by decide +kernel, ?_⟩
   conv => whnf
   by_cases hin : inN p q
   · rw [if_pos hin] at hrd
     subst hrd
     rw [decide_eq_true hin]
     refine hp.rst.call (cmknown_spec hp.rst.wf (hg.keep hp.rst.fr) (ht.keep hp.rst.fr)) ?_
     rintro _ s1 rfl h1 k1
     conv => whnf
     refine hp.dkN h1 k1 ?_
     clear hp h1 k1
     intro s hp
     conv => whnf
     repeat ((first | refine Br.y1 ?_ | refine Br.n1 ?_); conv => whnf)
     refine Om.of (.bool false) (by rfl) ?_
     conv => whnf
     repeat ((first | refine Br.y1 ?_ | refine Br.n1 ?_); conv => whnf)
     refine hp.loadA (l := (xN k p q C).cells (.slice aw (xN k p q C).ls.length cw)) .d rfl (by rfl) rfl rfl ?_
     conv => whnf
     repeat ((first | refine Br.y1 ?_ | refine Br.n1 ?_); conv => whnf)
     refine hp.load (v := .int .i64 ((k + 1 : Nat) : Int)) .d (by rfl) rfl rfl rfl ?_
     conv => whnf
     repeat ((first | refine Br.y1 ?_ | refine Br.n1 ?_); conv => whnf)
     refine hp.load (v := .int .i64 ((p : Int) - 15)) .d (by rfl) rfl rfl rfl ?_
     conv => whnf
     repeat ((first | refine Br.y1 ?_ | refine Br.n1 ?_); conv => whnf)
     refine hp.load (v := .int .i64 ((q : Int) - 15)) .d (by rfl) rfl rfl rfl ?_
     conv => whnf
     repeat ((first | refine Br.y1 ?_ | refine Br.n1 ?_); conv => whnf)
     refine hp.load (v := .int .i64 C) .d (by rfl) rfl rfl rfl ?_
     conv => whnf
     repeat ((first | refine Br.y1 ?_ | refine Br.n1 ?_); conv => whnf)
     refine hp.rst.call (craw_spec hp.rst.wf _ _ _ _) ?_
     rintro _ s1 rfl h1 k1
     conv => whnf
     refine hp.dkN h1 k1 ?_
     clear hp h1 k1
     intro s hp
     conv => whnf
     repeat ((first | refine Br.y1 ?_ | refine Br.n1 ?_); conv => whnf)
     refine hp.rst.call (lsame_spec hp.rst.wf (x := xN k p q C) rfl (hp.rst.slF (κ := κ) (v := .slice aw (xN k p q C).ls.length cw) .d)) ?_
     rintro _ s1 rfl h1 k1
     conv => whnf
     refine hp.dkN h1 k1 ?_
     clear hp h1 k1
     intro s hp
     conv => whnf
     repeat ((first | refine Br.y1 ?_ | refine Br.n1 ?_); conv => whnf)
     refine hp.loadA (l := (xN k p q C).cells nil24) .d rfl (by rfl) rfl rfl ?_
     conv => whnf
     repeat ((first | refine Br.y1 ?_ | refine Br.n1 ?_); conv => whnf)
     refine hp.rst.call (cprint_spec hp.rst.wf (hg.keep hp.rst.fr) (ht.keep hp.rst.fr) (x := xN k p q C) (by show 0 < w128; decide) (κ := none) (v := nil24) ⟨.inl ⟨rfl, rfl, rfl, rfl⟩⟩ (fun y hy => by cases hy) (Nat.zero_le _) (Nat.zero_le _) hnr (fun W h1 h2 h5 => absurd h5 (hv5 W)) (fun W h1 h2 => readC_c _)) ?_
     rintro _ s1 ⟨W, hW1, hW2, rfl⟩ h1 k1
     conv => whnf
     refine hp.dkN h1 k1 ?_
     clear hp h1 k1
     intro s hp
     conv => whnf
     have hpS : printC W (xN k p q C) = S := by
      unfold printC
      rw [if_neg (by show ¬ (shape ((k + 1 : Nat) : Int)).2 = false; rw [hsh]; decide), hS.out hin W hW1 hW2, hS.rd, if_pos hin, if_neg (by simp [eqC_self])]
     rw [hpS]
     repeat ((first | refine Br.y1 ?_ | refine Br.n1 ?_); conv => whnf)
     refine Om.of _ (sv_ne S S) ?_
     conv => whnf
     rw [beq_self_eq_true]
     repeat ((first | refine Br.y1 ?_ | refine Br.n1 ?_); conv => whnf)
     exact ⟨rfl, ⟨_, hp⟩, subK_ok ⟨rfl, rfl, trivial⟩⟩
   · rw [if_neg hin] at hrd
     subst hrd
     rw [decide_eq_false hin]
     refine hp.rst.call (cmknown_spec hp.rst.wf (hg.keep hp.rst.fr) (ht.keep hp.rst.fr)) ?_
     rintro _ s1 rfl h1 k1
     conv => whnf
     refine hp.dkN h1 k1 ?_
     clear hp h1 k1
     intro s hp
     conv => whnf
     repeat ((first | refine Br.y1 ?_ | refine Br.n1 ?_); conv => whnf)
     refine Om.of (.bool false) (by rfl) ?_
     conv => whnf
     repeat ((first | refine Br.y1 ?_ | refine Br.n1 ?_); conv => whnf)
     refine hp.loadA (l := (xN k p q C).cells nil24) .d rfl (by rfl) rfl rfl ?_
     conv => whnf
     repeat ((first | refine Br.y1 ?_ | refine Br.n1 ?_); conv => whnf)
     refine hp.rst.call (cprint_spec hp.rst.wf (hg.keep hp.rst.fr) (ht.keep hp.rst.fr) (x := xN k p q C) (by show 0 < w128; decide) (κ := none) (v := nil24) ⟨.inl ⟨rfl, rfl, rfl, rfl⟩⟩ (fun y hy => by cases hy) (Nat.zero_le _) (Nat.zero_le _) hnr (fun W h1 h2 h5 => absurd h5 (hv5 W)) (fun W h1 h2 => readC_c _)) ?_
     rintro _ s1 ⟨W, hW1, hW2, rfl⟩ h1 k1
     conv => whnf
     refine hp.dkN h1 k1 ?_
     clear hp h1 k1
     intro s hp
     conv => whnf
     have hpS : printC W (xN k p q C) = [] := print_out (by show 2 ≤ (shape ((k + 1 : Nat) : Int)).1.2; rw [kcnt]; split <;> omega) (fun h => hin (by obtain ⟨⟨h1, h2⟩, h3, h4⟩ := h; have h1 : 0 ≤ (p : Int) - 15 := h1; have h2 : (p : Int) - 15 < 100 := h2; have h3 : 0 ≤ (q : Int) - 15 := h3; have h4 : (q : Int) - 15 < 100 := h4; exact ⟨⟨by omega, by omega⟩, by omega, by omega⟩)) W
     rw [hpS]
     repeat ((first | refine Br.y1 ?_ | refine Br.n1 ?_); conv => whnf)
     refine Om.of _ (sv_ne [] []) ?_
     conv => whnf
     rw [beq_self_eq_true]
     repeat ((first | refine Br.y1 ?_ | refine Br.n1 ?_); conv => whnf)
     exact ⟨rfl, ⟨_, hp⟩, subK_ok ⟨rfl, rfl, trivial⟩⟩
 clear hp
 rintro e' L' s ⟨rfl, ⟨F, hp⟩, hs_⟩
 refine Sm.weak _ hs_ ?_
 clear hs_
 refine Sm.ofW ?_
 conv => whnf
 repeat ((first | refine Br.y1 ?_ | refine Br.n1 ?_); conv => whnf)
 have hdr : (ofD n 3).right = true := by
  rw [ofD_mk2 (by decide) (by decide)]
  exact mkD_r (by obtain ⟨h1, h2⟩ := hn; omega) (by decide) (by decide)
 have hdc : (ofD n 3).c < w128 := Nat.lt_trans (Dc.right_iff.1 hdr).1 (by decide)
 have hrr := read_rate hdr
 have hpl := print_len hdr
 refine Sm.seqW ?_
 conv => whnf
 refine hp.call (rof_spec hp.wf hn 3) ?_
 clear hp
 rintro _ s rfl hp _
 conv => whnf
 generalize ofD n 3 = d at *
 refine hp.alloc (cs := Dc.zero.cells) (e := 4) rfl rfl rfl rfl rfl ?_
 clear hp
 intro p17 s hp _
 conv => whnf
 refine hp.storeW (vs := d.cells) rfl .d csx rfl rfl rfl ?_
 clear hp
 intro s hp _
 conv => whnf
 refine Sm.live [17] ?_
 conv => whnf
 refine Sm.seqW ?_
 conv => whnf
 refine hp.loadA (l := d.cells) .d rfl (by rfl) rfl rfl ?_
 conv => whnf
 refine hp.call (rprint_spec hp.wf d hdc) ?_
 clear hp
 rintro _ s rfl hp _
 conv => whnf
 refine Om.of _ (sv_add [114, 97, 116, 101, 32, 49, 32, 50, 32, 48, 32] (printF d) (by simp only [List.length_cons, List.length_nil]; omega)) ?_
 conv => whnf
 refine Sm.live [17, 18] ?_
 conv => whnf
 refine Sm.seqW ?_
 conv => whnf
 refine hp.call (cread_spec hp.wf (hg.keep hp.fr) (rateT d) (by unfold rateT; rw [List.length_append]; simp only [List.length_cons, List.length_nil]; omega) (fun _ => rate_ascii hdr)) ?_
 intro r s hr h1 k1
 obtain ⟨w2, rfl, how_⟩ := hr
 rw [hrr] at how_ ⊢
 obtain ⟨κ2, hp⟩ := hp.on k1 how_
 clear h1 k1 how_
 obtain ⟨aw2, cw2, rfl⟩ := (hp.slF (κ := κ2) (v := w2) .d).shape
 conv => whnf
 refine hp.alloc (cs := Cm.zero.cells nil24) (e := 10) rfl rfl rfl rfl rfl ?_
 clear hp
 intro p19 s hp _
 conv => whnf
 refine hp.storeW (vs := (rateC d).cells (.slice aw2 (rateC d).ls.length cw2)) rfl .d csx rfl rfl rfl ?_
 clear hp
 intro s hp _
 conv => whnf
 refine Sm.live [17, 18, 19, 20] ?_
 conv => whnf
 refine Sm.seqW ?_
 conv => whnf
 repeat ((first | refine Br.y1 ?_ | refine Br.n1 ?_); conv => whnf)
 refine hp.loadA (l := d.cells) .d rfl (by rfl) rfl rfl ?_
 conv => whnf
 repeat ((first | refine Br.y1 ?_ | refine Br.n1 ?_); conv => whnf)
 refine hp.loadA (l := d.cells) .d rfl (by rfl) rfl rfl ?_
 conv => whnf
 repeat ((first | refine Br.y1 ?_ | refine Br.n1 ?_); conv => whnf)
 refine Om.of _ (dc_eq d d _) ?_
 conv => whnf
 rw [eqD_self]
 repeat ((first | refine Br.y1 ?_ | refine Br.n1 ?_); conv => whnf)
 refine hp.loadA (l := (rateC d).cells (.slice aw2 (rateC d).ls.length cw2)) .d rfl (by rfl) rfl rfl ?_
 conv => whnf
 repeat ((first | refine Br.y1 ?_ | refine Br.n1 ?_); conv => whnf)
 refine hp.call (cprint_spec hp.wf (hg.keep hp.fr) (ht.keep hp.fr) (x := rateC d) hdc (hp.slF (κ := κ2) (v := .slice aw2 (rateC d).ls.length cw2) .d) (fun y hy => by cases hy) (Nat.zero_le _) (Nat.zero_le _) (fun j hj => by
  have : j = 0 ∨ j = 1 ∨ j = 2 := by omega
  rcases this with rfl | rfl | rfl
  · exact ⟨show -1000 < (1 : Int) by decide, show (1 : Int) < 1000 by decide⟩
  · exact ⟨show -1000 < (2 : Int) by decide, show (2 : Int) < 1000 by decide⟩
  · exact ⟨show -1000 < (0 : Int) by decide, show (0 : Int) < 1000 by decide⟩) (fun W h1 h2 _ => by rw [rate_out h1 h2]; exact rate_ascii hdr) (fun W h1 h2 => readC_c _)) ?_
 clear hp
 rintro _ s ⟨W, hW1, hW2, rfl⟩ hp _
 rw [rate_print hdr hW1 hW2]
 conv => whnf
 repeat ((first | refine Br.y1 ?_ | refine Br.n1 ?_); conv => whnf)
 refine Om.of _ (sv_eq (rateT d) (rateT d)) ?_
 conv => whnf
 rw [beq_self_eq_true]
 repeat ((first | refine Br.y1 ?_ | refine Br.n1 ?_); conv => whnf)
 refine Sm.live [10] ?_
 conv => whnf
 refine Sm.ofW ?_
 conv => whnf
 exact ⟨rfl⟩
end
end Go.Ev
