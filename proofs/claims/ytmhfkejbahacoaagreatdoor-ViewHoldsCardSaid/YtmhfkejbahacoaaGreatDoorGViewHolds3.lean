/- Several texts in one: what the law's text leans on, one behind the other. No condition but those that each theorem names. -/
import Derived.Test.YtmhfkejbahacoaaGreatDoorGViewHolds2
/- Tokens without a program. No condition. -/
noncomputable section
namespace Go.Ev
open Go.Proofs
variable [Lk]
set_option linter.unusedSectionVars false
set_option linter.unusedVariables false
set_option maxRecDepth 100000

structure Tok where
  kind : Int
  text : List UInt8
  at_ : Nat
def Tok.cells (t : Tok) : List Value := [.int .i64 t.kind, sv t.text, .int .i64 (t.at_ : Int)]
def Tok.val (t : Tok) : Value := .agg #[.int .i64 t.kind, sv t.text, .int .i64 (t.at_ : Int)]
def tkC (ts : List Tok) : List Value := (ts.map Tok.cells).flatten
theorem tkC_nil : tkC [] = [] := rfl
theorem tkC_cons (t : Tok) (ts : List Tok) : tkC (t :: ts) = t.cells ++ tkC ts := by simp [tkC]
theorem tkC_app (a b : List Tok) : tkC (a ++ b) = tkC a ++ tkC b := by simp [tkC]
theorem tkC_len : ∀ ts : List Tok, (tkC ts).length = ts.length * 3
  | [] => rfl
  | t :: ts => by
    rw [tkC_cons, List.length_append, tkC_len ts, List.length_cons]
    show 3 + ts.length * 3 = (ts.length + 1) * 3
    omega
theorem tkC_at : ∀ {ts : List Tok} {i : Nat} (h : i < ts.length), ((tkC ts).drop (i * 3)).take 3 = ts[i].cells
  | t :: ts, 0, _ => rfl
  | t :: ts, i + 1, h => by
    have := tkC_at (ts := ts) (i := i) (by simpa using h)
    rw [tkC_cons, show (i + 1) * 3 = 3 + i * 3 by omega, ← List.drop_drop]
    exact this
/-- What the reading of a text that is a number answers, and its error. -/
def readE (l : List UInt8) : Int := if readOk (bodyF l) = false then 2 else if 10 ^ 30 ≤ valD (wholeF (bodyF l) ++ restF (bodyF l)) then 3
  else if (hasP l [45] && decide (valD (wholeF (bodyF l) ++ restF (bodyF l)) = 0)) = true then 2 else 0
theorem readF_E (l : List UInt8) : ∃ d : Dc, readF l = .tuple #[d.val, .int .i64 (readE l)] := by
  unfold readF readE
  split
  · exact ⟨_, rfl⟩
  · split
    · exact ⟨_, rfl⟩
    · split
      · exact ⟨_, rfl⟩
      · exact ⟨_, rfl⟩
def numAt (c : UInt8) (r : List UInt8) : Bool := isD c || (decide (c = 45) && match r with
  | [] => false
  | d :: _ => isD d)
def isS (c : UInt8) : Bool := decide (c = 40) || (decide (c = 41) || (decide (c = 61) || (decide (c = 60) || decide (c = 62))))
/-- The token at a place. -/
def oneL (c : UInt8) (r : List UInt8) (i : Nat) : Option Tok :=
  if isL c = true then some ⟨1, c :: r.takeWhile isL, i⟩
  else if numAt c r = true then (if readE (c :: r.takeWhile isP) = 0 then some ⟨2, c :: r.takeWhile isP, i⟩ else none)
  else if isS c = true then some ⟨3, [c], i⟩ else none
theorem oneL_text {c : UInt8} {r : List UInt8} {i : Nat} {t : Tok} (h : oneL c r i = some t) : t.at_ = i ∧ t.text ≠ [] ∧ t.text.length ≤ r.length + 1 ∧ (t.kind = 1 ∨ t.kind = 2 ∨ t.kind = 3) ∧ t.text = (c :: r).take t.text.length := by
  unfold oneL at h
  have tw : ∀ p : UInt8 → Bool, (r.takeWhile p).length ≤ r.length ∧ r.takeWhile p = r.take (r.takeWhile p).length := fun p => by
    have := List.takeWhile_prefix (l := r) p
    exact ⟨this.length_le, (List.prefix_iff_eq_take.1 this)⟩
  split at h
  · injection h with h; subst h
    exact ⟨rfl, by simp, by have := (tw isL).1; simp; exact this, .inl rfl, by
      show c :: r.takeWhile isL = (c :: r).take ((r.takeWhile isL).length + 1)
      rw [List.take_succ_cons, ← (tw isL).2]⟩
  · split at h
    · split at h
      · injection h with h; subst h
        exact ⟨rfl, by simp, by have := (tw isP).1; simp; exact this, .inr (.inl rfl), by
          show c :: r.takeWhile isP = (c :: r).take ((r.takeWhile isP).length + 1)
          rw [List.take_succ_cons, ← (tw isP).2]⟩
      · cases h
    · split at h
      · injection h with h; subst h
        exact ⟨rfl, by simp, by simp, .inr (.inr rfl), rfl⟩
      · cases h
/-- The tokens behind a place, or the place where there is none. -/
def lexN : Nat → List UInt8 → Nat → List Tok ⊕ Nat
  | 0, _, i => .inl [⟨4, [], i⟩]
  | n + 1, s, i => match s.drop i with
    | [] => .inl [⟨4, [], i⟩]
    | c :: r => if c = 32 then lexN n s (i + 1) else match oneL c r i with
      | none => .inr i
      | some t => match lexN n s (i + t.text.length) with
        | .inl ts => .inl (t :: ts)
        | .inr k => .inr k
def lexF (s : List UInt8) (i : Nat) : List Tok ⊕ Nat := lexN (s.length - i) s i
theorem lexN_fuel : ∀ (n m : Nat) (s : List UInt8) (i : Nat), s.length - i ≤ n → s.length - i ≤ m → lexN n s i = lexN m s i
  | 0, 0, s, i, _, _ => rfl
  | 0, m + 1, s, i, h, _ => by
    have : s.drop i = [] := List.drop_eq_nil_of_le (by omega)
    simp only [lexN, this]
  | n + 1, 0, s, i, _, h => by
    have : s.drop i = [] := List.drop_eq_nil_of_le (by omega)
    simp only [lexN, this]
  | n + 1, m + 1, s, i, h1, h2 => by
    simp only [lexN]
    cases hd : s.drop i with
    | nil => rfl
    | cons c r =>
      have hlen : s.length - i = r.length + 1 := by have := congrArg List.length hd; simpa using this
      by_cases hc : c = 32
      · simp only [hc, if_true]
        exact lexN_fuel n m s (i + 1) (by omega) (by omega)
      · simp only [hc, if_false]
        cases ho : oneL c r i with
        | none => rfl
        | some t =>
          have := (oneL_text ho).2.1
          have : 0 < t.text.length := List.length_pos_iff.2 this
          simp only
          rw [lexN_fuel n m s (i + t.text.length) (by omega) (by omega)]
theorem lexF_end {s : List UInt8} {i : Nat} (h : s.length ≤ i) : lexF s i = .inl [⟨4, [], i⟩] := by
  unfold lexF
  rw [show s.length - i = 0 by omega]; rfl
theorem lexF_blank {s : List UInt8} {i : Nat} {c : UInt8} {r : List UInt8} (hd : s.drop i = c :: r) (hc : c = 32) : lexF s i = lexF s (i + 1) := by
  have hlen : s.length - i = r.length + 1 := by have := congrArg List.length hd; simpa using this
  unfold lexF
  rw [hlen, show s.length - (i + 1) = r.length by omega]
  simp only [lexN, hd, hc, if_true]
theorem lexF_tok {s : List UInt8} {i : Nat} {c : UInt8} {r : List UInt8} {t : Tok} (hd : s.drop i = c :: r) (hc : c ≠ 32) (ho : oneL c r i = some t) :
    lexF s i = match lexF s (i + t.text.length) with
      | .inl ts => .inl (t :: ts)
      | .inr k => .inr k := by
  have hlen : s.length - i = r.length + 1 := by have := congrArg List.length hd; simpa using this
  have := (oneL_text ho).2.1
  have : 0 < t.text.length := List.length_pos_iff.2 this
  unfold lexF
  rw [hlen, lexN_fuel (s.length - (i + t.text.length)) r.length s (i + t.text.length) (by omega) (by omega)]
  simp only [lexN, hd, hc, if_false, ho]
theorem lexF_bad {s : List UInt8} {i : Nat} {c : UInt8} {r : List UInt8} (hd : s.drop i = c :: r) (hc : c ≠ 32) (ho : oneL c r i = none) : lexF s i = .inr i := by
  have hlen : s.length - i = r.length + 1 := by have := congrArg List.length hd; simpa using this
  unfold lexF
  rw [hlen]
  simp only [lexN, hd, hc, if_false, ho]
/-- Behind tokens that are known. -/
def afterR (out : List Tok) : List Tok ⊕ Nat → List Tok ⊕ Nat
  | .inl ts => .inl (out ++ ts)
  | .inr k => .inr k
theorem afterR_tok (out : List Tok) (t : Tok) (x : List Tok ⊕ Nat) : afterR out (match x with
      | .inl ts => .inl (t :: ts)
      | .inr k => .inr k) = afterR (out ++ [t]) x := by
  cases x <;> simp [afterR]
def tokR (s : List UInt8) : List Tok ⊕ Nat := if 400 < s.length then .inr 0 else lexF s 0
end Go.Ev
end

/- lex.one walked. No condition. -/
noncomputable section
namespace Go.Ev
open Go.Proofs
variable [Lk]
set_option linter.unusedSectionVars false
set_option linter.unusedVariables false
set_option maxRecDepth 100000

theorem sindexByte_spec (s : St) (l : List UInt8) (c : UInt8) : Cw Tryz.prog 146 [sv l, .int .u8 ((c.toNat : Nat) : Int)] s fun r s' => s' = s ∧ r = .int .i64 (ixI (idxL c.toNat l 0)) := by
  refine Cw.enterS Tryz.func146 rfl rfl ?_
  refine Sm.seqW ?_
  conv => whnf
  refine Sm.seqW ?_
  conv => whnf
  refine (indexByte_spec _ l c).mono ?_
  rintro _ s1 ⟨h1, rfl⟩
  obtain rfl := h1.symm
  conv => whnf
  refine Sm.ofW ?_
  conv => whnf
  exact ⟨rfl, rfl⟩
theorem signs_ix (c : UInt8) : decide (ixI (idxL c.toNat [40, 41, 61, 60, 62] 0) ≥ 0) = isS c := by
  have : ∀ n, n < 256 → decide (ixI (idxL n [40, 41, 61, 60, 62] 0) ≥ 0) = isS (UInt8.ofNat n) := by decide +kernel
  have h := this c.toNat (UInt8.toNat_lt c)
  rwa [UInt8.ofNat_toNat] at h
theorem slice_at {l : List UInt8} {i n : Nat} {c : UInt8} {r w : List UInt8} (hd : l.drop i = c :: r) (hw : w = (c :: r).take n) (hn : n ≤ r.length + 1) :
    evSliceStr Tryz.prog 9 (sv l) (some (.int .i64 (i : Int))) (some (.int .i64 ((i + n : Nat) : Int))) = some (sv w) := by
  have hlen : l.length - i = r.length + 1 := by have := congrArg List.length hd; simpa using this
  have h := str_slice (P := Tryz.prog) Tryz.underlying9 (l := l) .i64 .i64 (some i) (some (i + n)) (by simp only [Option.getD_some]; omega) (by simp only [Option.getD_some]; omega)
  have e : (l.drop i).take (i + n - i) = w := by rw [hd, show i + n - i = n by omega, hw]
  simp only [bndV, Option.getD_some] at h
  rw [h, e]
theorem tw_take (p : UInt8 → Bool) (c : UInt8) (r : List UInt8) : c :: r.takeWhile p = (c :: r).take (1 + (r.takeWhile p).length) := by
  have := List.prefix_iff_eq_take.1 (List.takeWhile_prefix (l := r) p)
  rw [Nat.add_comm, List.take_succ_cons, ← this]
theorem tw_len (p : UInt8 → Bool) (r : List UInt8) : (r.takeWhile p).length ≤ r.length := (List.takeWhile_prefix (l := r) p).length_le
theorem xone_spec {z : St} (wf : WF z) {l : List UInt8} (hl : l.length ≤ 400) {i : Nat} {c : UInt8} {r : List UInt8} (hd : l.drop i = c :: r) :
    Cw Tryz.prog 100 [sv l, .int .i64 (i : Int)] z fun v s' => K0 z s' ∧ ∃ t : Tok, v = .tuple #[t.val, .bool (oneL c r i).isSome] ∧ ∀ t', oneL c r i = some t' → t' = t := by
  have hp : Hp (fun _ => False) z [] [] z := Hp.start _ wf _ (by simp)
  have hlen : l.length - i = r.length + 1 := by have := congrArg List.length hd; simpa using this
  have hi : i < l.length := by omega
  have hc : l[i] = c := by have := List.drop_eq_getElem_cons hi; rw [hd] at this; injection this with h1 h2; exact h1.symm
  have hr : l.drop (i + 1) = r := by have := List.drop_eq_getElem_cons hi; rw [hd] at this; injection this with h1 h2; exact h2.symm
  refine Cw.enterS Tryz.func100 rfl rfl ?_
  refine Sm.seqW ?_
  conv => whnf
  refine hp.alloc (cs := (Tok.mk 0 [] 0).cells) (e := 3) rfl rfl rfl rfl rfl ?_
  clear hp
  intro p4 s hp _
  conv => whnf
  refine Sm.live [0, 1, 4] ?_
  conv => whnf
  refine Sm.seqW ?_
  conv => whnf
  refine Om.of _ (str_index Tryz.underlying9 (l := l) (i := i) hi .i64) ?_
  conv => whnf
  rw [hc]
  refine Sm.live [0, 1, 4, 6] ?_
  conv => whnf
  refine Sm.seq ?_
  refine Sm.block ?_
  refine Sm.seqW ?_
  conv => whnf
  refine (xletter_spec _ c).mono ?_
  rintro _ s1 ⟨h1, rfl⟩
  obtain rfl := h1.symm
  conv => whnf
  refine Sm.live [0, 1, 4, 6, 13] ?_
  conv => whnf
  refine Sm.ofW ?_
  conv => whnf
  have ei : IntKind.i64.wrap ((i : Int) + 1) = ((i + 1 : Nat) : Int) := by rw [wi64 (by omega) (by omega)]; omega
  cases hL : isL c with
  | true =>
    have ho : oneL c r i = some ⟨1, c :: r.takeWhile isL, i⟩ := if_pos hL
    have htl := tw_len isL r
    rw [ho]
    repeat (first | (refine Br.yes (by first | with_reducible rfl | with_reducible exact beq_self_eq_true _ | rfl) ?_; conv => whnf) | (refine Br.no (by first | with_reducible rfl | with_reducible exact bne_self_eq_false _ | rfl) ?_; conv => whnf))
    refine (xrun_spec _ l (by omega) i (by omega) 142 isL (fun s c => xletter_spec s c)).mono ?_
    rintro _ s1 ⟨h1, rfl⟩
    obtain rfl := h1.symm
    conv => whnf
    rw [hd, List.takeWhile_cons_of_pos hL, List.length_cons, Nat.add_comm (r.takeWhile isL).length 1]
    refine Om.of _ (slice_at hd (tw_take isL c r) (by omega)) ?_
    conv => whnf
    refine hp.storeW (vs := (Tok.mk 1 (c :: r.takeWhile isL) i).cells) rfl (by repeat (first | exact Rm.here | apply Rm.there)) (by first | exact C2_same _ _ _ _ | exact C4_same _ _ _ _ _ _ _ _ | exact Dc_same _ _ | rfl) rfl rfl rfl ?_
    clear hp
    intro s hp _
    conv => whnf
    refine hp.loadA (l := (Tok.mk 1 (c :: r.takeWhile isL) i).cells) (by repeat (first | exact Has.here | apply Has.there | (apply Has.swap; repeat (first | exact HasR.here | apply HasR.there)))) rfl (by rfl) rfl rfl ?_
    conv => whnf
    exact ⟨hp.fr, _, rfl, fun t' h => by injection h with h; exact h.symm⟩
  | false =>
    repeat (first | (refine Br.yes (by first | with_reducible rfl | with_reducible exact beq_self_eq_true _ | rfl) ?_; conv => whnf) | (refine Br.no (by first | with_reducible rfl | with_reducible exact bne_self_eq_false _ | rfl) ?_; conv => whnf))
    refine (xdigit_spec _ c).mono ?_
    rintro _ s1 ⟨h1, rfl⟩
    obtain rfl := h1.symm
    conv => whnf
    cases hD : isD c with
    | true =>
      have hN : numAt c r = true := by unfold numAt; rw [hD]; rfl
      repeat (first | (refine Br.yes (by first | with_reducible rfl | with_reducible exact beq_self_eq_true _ | rfl) ?_; conv => whnf) | (refine Br.no (by first | with_reducible rfl | with_reducible exact bne_self_eq_false _ | rfl) ?_; conv => whnf))
      have ho : oneL c r i = if readE (c :: r.takeWhile isP) = 0 then some ⟨2, c :: r.takeWhile isP, i⟩ else none := by unfold oneL; rw [if_neg (by rw [hL]; decide), if_pos hN]
      have htl := tw_len isP r
      rw [ei]
      refine (xrun_spec _ l (by omega) (i + 1) (by omega) 145 isP (fun s c => xpart_spec s c)).mono ?_
      rintro _ s1 ⟨h1, rfl⟩
      obtain rfl := h1.symm
      conv => whnf
      rw [hr, Nat.add_assoc]
      refine Om.of _ (slice_at hd (tw_take isP c r) (by omega)) ?_
      conv => whnf
      refine hp.alloc (cs := (Tok.mk 0 [] 0).cells) (e := 3) rfl rfl rfl rfl rfl ?_
      clear hp
      intro p7 s hp _
      conv => whnf
      refine hp.storeW (vs := (Tok.mk 2 (c :: r.takeWhile isP) i).cells) rfl (by repeat (first | exact Rm.here | apply Rm.there)) (by first | exact C2_same _ _ _ _ | exact C4_same _ _ _ _ _ _ _ _ | exact Dc_same _ _ | rfl) rfl rfl rfl ?_
      clear hp
      intro s hp _
      conv => whnf
      refine hp.load (v := sv (c :: r.takeWhile isP)) (by repeat (first | exact Has.here | apply Has.there | (apply Has.swap; repeat (first | exact HasR.here | apply HasR.there)))) (by rfl) rfl rfl rfl ?_
      conv => whnf
      refine hp.call (read_spec hp.wf (c :: r.takeWhile isP) (by simp; omega)) ?_
      clear hp
      rintro _ s rfl hp _
      conv => whnf
      obtain ⟨dd, hde⟩ := readF_E (c :: r.takeWhile isP)
      rw [hde]
      conv => whnf
      refine hp.alloc (cs := Dc.zero.cells) (e := 4) rfl rfl rfl rfl rfl ?_
      clear hp
      intro p8 s hp _
      conv => whnf
      refine hp.storeW (vs := dd.cells) rfl (by repeat (first | exact Rm.here | apply Rm.there)) (by first | exact C2_same _ _ _ _ | exact C4_same _ _ _ _ _ _ _ _ | exact Dc_same _ _ | rfl) rfl rfl rfl ?_
      clear hp
      intro s hp _
      conv => whnf
      refine hp.loadA (l := (Tok.mk 2 (c :: r.takeWhile isP) i).cells) (by repeat (first | exact Has.here | apply Has.there | (apply Has.swap; repeat (first | exact HasR.here | apply HasR.there)))) rfl (by rfl) rfl rfl ?_
      conv => whnf
      refine hp.storeW (vs := (Tok.mk 2 (c :: r.takeWhile isP) i).cells) rfl (by repeat (first | exact Rm.here | apply Rm.there)) (by first | exact C2_same _ _ _ _ | exact C4_same _ _ _ _ _ _ _ _ | exact Dc_same _ _ | rfl) rfl rfl rfl ?_
      clear hp
      intro s hp _
      conv => whnf
      refine hp.loadA (l := (Tok.mk 2 (c :: r.takeWhile isP) i).cells) (by repeat (first | exact Has.here | apply Has.there | (apply Has.swap; repeat (first | exact HasR.here | apply HasR.there)))) rfl (by rfl) rfl rfl ?_
      conv => whnf
      refine ⟨hp.fr, ⟨2, c :: r.takeWhile isP, i⟩, ?_, fun t' h => ?_⟩
      · rw [ho]
        by_cases he : readE (c :: r.takeWhile isP) = 0
        · rw [if_pos he, he]; rfl
        · rw [if_neg he]
          show Value.tuple #[_, .bool (readE (c :: r.takeWhile isP) == 0)] = _
          rw [beq_eq_false_iff_ne.2 he]; rfl
      · rw [ho] at h
        split at h
        · injection h with h; exact h.symm
        · cases h
    | false =>
      repeat (first | (refine Br.yes (by first | with_reducible rfl | with_reducible exact beq_self_eq_true _ | rfl) ?_; conv => whnf) | (refine Br.no (by first | with_reducible rfl | with_reducible exact bne_self_eq_false _ | rfl) ?_; conv => whnf))
      by_cases h45 : c = 45
      · have q : (((c.toNat : Nat) : Int) == 45) = true := by rw [h45]; rfl
        repeat (first | (refine Br.yes q ?_; conv => whnf) | (first | (refine Br.yes (by first | with_reducible rfl | with_reducible exact beq_self_eq_true _ | rfl) ?_; conv => whnf) | (refine Br.no (by first | with_reducible rfl | with_reducible exact bne_self_eq_false _ | rfl) ?_; conv => whnf)))
        rw [ei]
        match r, hd, hlen, hr with
        | [], hd, hlen, hr =>
          have hN : numAt c [] = false := by unfold numAt; rw [hD]; simp
          have q2 : decide (((i + 1 : Nat) : Int) < (((bs ⟨l.toArray⟩).length : Nat) : Int)) = false := decide_eq_false (by show ¬ ((i + 1 : Nat) : Int) < (l.length : Int); simp at hlen; omega)
          repeat (first | (refine Br.yes q ?_; conv => whnf) | (refine Br.no q2 ?_; conv => whnf) | (first | (refine Br.yes (by first | with_reducible rfl | with_reducible exact beq_self_eq_true _ | rfl) ?_; conv => whnf) | (refine Br.no (by first | with_reducible rfl | with_reducible exact bne_self_eq_false _ | rfl) ?_; conv => whnf)))
          have ho : oneL c [] i = if isS c = true then some ⟨3, [c], i⟩ else none := by unfold oneL; rw [if_neg (by rw [hL]; decide), if_neg (by rw [hN]; decide)]
          refine Sm.seqW ?_
          conv => whnf
          refine ⟨[0, 0, 0, 4, 15, 0, 63, 0, 128, 384, 511, 2047], by decide +kernel, by decide +kernel, ?_⟩
          conv => whnf
          rw [ei]
          refine Om.of _ (slice_at hd (w := [c]) (n := 1) (by simp) (by simp)) ?_
          conv => whnf
          refine (sindexByte_spec _ [40, 41, 61, 60, 62] c).mono ?_
          rintro _ s1 ⟨h1, rfl⟩
          obtain rfl := h1.symm
          conv => whnf
          refine hp.dkS ?_
          conv => whnf
          refine hp.rst.storeW (vs := (Tok.mk 3 [c] i).cells) rfl (by repeat (first | exact Rm.here | apply Rm.there)) (by first | exact C2_same _ _ _ _ | exact C4_same _ _ _ _ _ _ _ _ | exact Dc_same _ _ | rfl) rfl rfl rfl ?_
          intro s1 h1 l1
          conv => whnf
          refine hp.dkW h1 l1 ?_
          clear hp h1 l1
          intro s hp
          conv => whnf
          refine Sm.live [4, 5] ?_
          conv => whnf
          refine Sm.ofW ?_
          conv => whnf
          refine hp.loadA (l := (Tok.mk 3 [c] i).cells) (by repeat (first | exact Has.here | apply Has.there | (apply Has.swap; repeat (first | exact HasR.here | apply HasR.there)))) rfl (by rfl) rfl rfl ?_
          conv => whnf
          refine ⟨hp.fr, ⟨3, [c], i⟩, ?_, fun t' h => ?_⟩
          · rw [ho]
            show Value.tuple #[_, .bool (decide (ixI (idxL c.toNat [40, 41, 61, 60, 62] 0) ≥ 0))] = _
            rw [signs_ix]
            cases isS c <;> rfl
          · rw [ho] at h
            split at h
            · injection h with h; exact h.symm
            · cases h
        | d :: r', hd, hlen, hr =>
          have hi1 : i + 1 < l.length := by simp at hlen; omega
          have hd1 : l[i + 1] = d := by have := List.drop_eq_getElem_cons hi1; rw [hr] at this; injection this with h1 h2; exact h1.symm
          have q2 : decide (((i + 1 : Nat) : Int) < (((bs ⟨l.toArray⟩).length : Nat) : Int)) = true := decide_eq_true (by show ((i + 1 : Nat) : Int) < (l.length : Int); omega)
          repeat (first | (refine Br.yes q ?_; conv => whnf) | (refine Br.yes q2 ?_; conv => whnf) | (first | (refine Br.yes (by first | with_reducible rfl | with_reducible exact beq_self_eq_true _ | rfl) ?_; conv => whnf) | (refine Br.no (by first | with_reducible rfl | with_reducible exact bne_self_eq_false _ | rfl) ?_; conv => whnf)))
          rw [ei]
          refine Om.of _ (str_index Tryz.underlying9 (l := l) (i := i + 1) hi1 .i64) ?_
          conv => whnf
          rw [hd1]
          repeat (first | (refine Br.yes q ?_; conv => whnf) | (refine Br.yes q2 ?_; conv => whnf) | (first | (refine Br.yes (by first | with_reducible rfl | with_reducible exact beq_self_eq_true _ | rfl) ?_; conv => whnf) | (refine Br.no (by first | with_reducible rfl | with_reducible exact bne_self_eq_false _ | rfl) ?_; conv => whnf)))
          refine (xdigit_spec _ d).mono ?_
          rintro _ s1 ⟨h1, rfl⟩
          obtain rfl := h1.symm
          conv => whnf
          cases hdd : isD d with
          | true =>
            have hN : numAt c (d :: r') = true := by show (isD c || (decide (c = 45) && isD d)) = true; rw [hD, hdd, h45]; rfl
            repeat (first | (refine Br.yes q ?_; conv => whnf) | (refine Br.yes q2 ?_; conv => whnf) | (first | (refine Br.yes (by first | with_reducible rfl | with_reducible exact beq_self_eq_true _ | rfl) ?_; conv => whnf) | (refine Br.no (by first | with_reducible rfl | with_reducible exact bne_self_eq_false _ | rfl) ?_; conv => whnf)))
            have ho : oneL c (d :: r') i = if readE (c :: (d :: r').takeWhile isP) = 0 then some ⟨2, c :: (d :: r').takeWhile isP, i⟩ else none := by unfold oneL; rw [if_neg (by rw [hL]; decide), if_pos hN]
            have htl := tw_len isP (d :: r')
            rw [ei]
            refine (xrun_spec _ l (by omega) (i + 1) (by omega) 145 isP (fun s c => xpart_spec s c)).mono ?_
            rintro _ s1 ⟨h1, rfl⟩
            obtain rfl := h1.symm
            conv => whnf
            rw [hr, Nat.add_assoc]
            refine Om.of _ (slice_at hd (tw_take isP c (d :: r')) (by omega)) ?_
            conv => whnf
            refine hp.alloc (cs := (Tok.mk 0 [] 0).cells) (e := 3) rfl rfl rfl rfl rfl ?_
            clear hp
            intro p7 s hp _
            conv => whnf
            refine hp.storeW (vs := (Tok.mk 2 (c :: (d :: r').takeWhile isP) i).cells) rfl (by repeat (first | exact Rm.here | apply Rm.there)) (by first | exact C2_same _ _ _ _ | exact C4_same _ _ _ _ _ _ _ _ | exact Dc_same _ _ | rfl) rfl rfl rfl ?_
            clear hp
            intro s hp _
            conv => whnf
            refine hp.load (v := sv (c :: (d :: r').takeWhile isP)) (by repeat (first | exact Has.here | apply Has.there | (apply Has.swap; repeat (first | exact HasR.here | apply HasR.there)))) (by rfl) rfl rfl rfl ?_
            conv => whnf
            refine hp.call (read_spec hp.wf (c :: (d :: r').takeWhile isP) (by simp; omega)) ?_
            clear hp
            rintro _ s rfl hp _
            conv => whnf
            obtain ⟨dd, hde⟩ := readF_E (c :: (d :: r').takeWhile isP)
            rw [hde]
            conv => whnf
            refine hp.alloc (cs := Dc.zero.cells) (e := 4) rfl rfl rfl rfl rfl ?_
            clear hp
            intro p8 s hp _
            conv => whnf
            refine hp.storeW (vs := dd.cells) rfl (by repeat (first | exact Rm.here | apply Rm.there)) (by first | exact C2_same _ _ _ _ | exact C4_same _ _ _ _ _ _ _ _ | exact Dc_same _ _ | rfl) rfl rfl rfl ?_
            clear hp
            intro s hp _
            conv => whnf
            refine hp.loadA (l := (Tok.mk 2 (c :: (d :: r').takeWhile isP) i).cells) (by repeat (first | exact Has.here | apply Has.there | (apply Has.swap; repeat (first | exact HasR.here | apply HasR.there)))) rfl (by rfl) rfl rfl ?_
            conv => whnf
            refine hp.storeW (vs := (Tok.mk 2 (c :: (d :: r').takeWhile isP) i).cells) rfl (by repeat (first | exact Rm.here | apply Rm.there)) (by first | exact C2_same _ _ _ _ | exact C4_same _ _ _ _ _ _ _ _ | exact Dc_same _ _ | rfl) rfl rfl rfl ?_
            clear hp
            intro s hp _
            conv => whnf
            refine hp.loadA (l := (Tok.mk 2 (c :: (d :: r').takeWhile isP) i).cells) (by repeat (first | exact Has.here | apply Has.there | (apply Has.swap; repeat (first | exact HasR.here | apply HasR.there)))) rfl (by rfl) rfl rfl ?_
            conv => whnf
            refine ⟨hp.fr, ⟨2, c :: (d :: r').takeWhile isP, i⟩, ?_, fun t' h => ?_⟩
            · rw [ho]
              by_cases he : readE (c :: (d :: r').takeWhile isP) = 0
              · rw [if_pos he, he]; rfl
              · rw [if_neg he]
                show Value.tuple #[_, .bool (readE (c :: (d :: r').takeWhile isP) == 0)] = _
                rw [beq_eq_false_iff_ne.2 he]; rfl
            · rw [ho] at h
              split at h
              · injection h with h; exact h.symm
              · cases h
          | false =>
            have hN : numAt c (d :: r') = false := by show (isD c || (decide (c = 45) && isD d)) = false; rw [hD, hdd]; simp
            repeat (first | (refine Br.yes q ?_; conv => whnf) | (refine Br.yes q2 ?_; conv => whnf) | (first | (refine Br.yes (by first | with_reducible rfl | with_reducible exact beq_self_eq_true _ | rfl) ?_; conv => whnf) | (refine Br.no (by first | with_reducible rfl | with_reducible exact bne_self_eq_false _ | rfl) ?_; conv => whnf)))
            have ho : oneL c (d :: r') i = if isS c = true then some ⟨3, [c], i⟩ else none := by unfold oneL; rw [if_neg (by rw [hL]; decide), if_neg (by rw [hN]; decide)]
            refine Sm.seqW ?_
            conv => whnf
            refine ⟨[0, 0, 0, 4, 15, 0, 63, 0, 128, 384, 511, 2047], by decide +kernel, by decide +kernel, ?_⟩
            conv => whnf
            rw [ei]
            refine Om.of _ (slice_at hd (w := [c]) (n := 1) (by simp) (by omega)) ?_
            conv => whnf
            refine (sindexByte_spec _ [40, 41, 61, 60, 62] c).mono ?_
            rintro _ s1 ⟨h1, rfl⟩
            obtain rfl := h1.symm
            conv => whnf
            refine hp.dkS ?_
            conv => whnf
            refine hp.rst.storeW (vs := (Tok.mk 3 [c] i).cells) rfl (by repeat (first | exact Rm.here | apply Rm.there)) (by first | exact C2_same _ _ _ _ | exact C4_same _ _ _ _ _ _ _ _ | exact Dc_same _ _ | rfl) rfl rfl rfl ?_
            intro s1 h1 l1
            conv => whnf
            refine hp.dkW h1 l1 ?_
            clear hp h1 l1
            intro s hp
            conv => whnf
            refine Sm.live [4, 5] ?_
            conv => whnf
            refine Sm.ofW ?_
            conv => whnf
            refine hp.loadA (l := (Tok.mk 3 [c] i).cells) (by repeat (first | exact Has.here | apply Has.there | (apply Has.swap; repeat (first | exact HasR.here | apply HasR.there)))) rfl (by rfl) rfl rfl ?_
            conv => whnf
            refine ⟨hp.fr, ⟨3, [c], i⟩, ?_, fun t' h => ?_⟩
            · rw [ho]
              show Value.tuple #[_, .bool (decide (ixI (idxL c.toNat [40, 41, 61, 60, 62] 0) ≥ 0))] = _
              rw [signs_ix]
              cases isS c <;> rfl
            · rw [ho] at h
              split at h
              · injection h with h; exact h.symm
              · cases h
      · have q : (((c.toNat : Nat) : Int) == 45) = false := (u8_beq c 45).trans (decide_eq_false h45)
        have hN : numAt c r = false := by unfold numAt; rw [hD, decide_eq_false h45]; rfl
        repeat (first | (refine Br.no q ?_; conv => whnf) | (first | (refine Br.yes (by first | with_reducible rfl | with_reducible exact beq_self_eq_true _ | rfl) ?_; conv => whnf) | (refine Br.no (by first | with_reducible rfl | with_reducible exact bne_self_eq_false _ | rfl) ?_; conv => whnf)))
        have ho : oneL c r i = if isS c = true then some ⟨3, [c], i⟩ else none := by unfold oneL; rw [if_neg (by rw [hL]; decide), if_neg (by rw [hN]; decide)]
        refine Sm.seqW ?_
        conv => whnf
        refine ⟨[0, 0, 0, 4, 15, 0, 63, 0, 128, 384, 511, 2047], by decide +kernel, by decide +kernel, ?_⟩
        conv => whnf
        rw [ei]
        refine Om.of _ (slice_at hd (w := [c]) (n := 1) (by simp) (by omega)) ?_
        conv => whnf
        refine (sindexByte_spec _ [40, 41, 61, 60, 62] c).mono ?_
        rintro _ s1 ⟨h1, rfl⟩
        obtain rfl := h1.symm
        conv => whnf
        refine hp.dkS ?_
        conv => whnf
        refine hp.rst.storeW (vs := (Tok.mk 3 [c] i).cells) rfl (by repeat (first | exact Rm.here | apply Rm.there)) (by first | exact C2_same _ _ _ _ | exact C4_same _ _ _ _ _ _ _ _ | exact Dc_same _ _ | rfl) rfl rfl rfl ?_
        intro s1 h1 l1
        conv => whnf
        refine hp.dkW h1 l1 ?_
        clear hp h1 l1
        intro s hp
        conv => whnf
        refine Sm.live [4, 5] ?_
        conv => whnf
        refine Sm.ofW ?_
        conv => whnf
        refine hp.loadA (l := (Tok.mk 3 [c] i).cells) (by repeat (first | exact Has.here | apply Has.there | (apply Has.swap; repeat (first | exact HasR.here | apply HasR.there)))) rfl (by rfl) rfl rfl ?_
        conv => whnf
        refine ⟨hp.fr, ⟨3, [c], i⟩, ?_, fun t' h => ?_⟩
        · rw [ho]
          show Value.tuple #[_, .bool (decide (ixI (idxL c.toNat [40, 41, 61, 60, 62] 0) ≥ 0))] = _
          rw [signs_ix]
          cases isS c <;> rfl
        · rw [ho] at h
          split at h
          · injection h with h; exact h.symm
          · cases h
end Go.Ev
end

/- lex.Tokens walked. No condition. -/
noncomputable section
namespace Go.Ev
open Go.Proofs
variable [Lk]
set_option linter.unusedSectionVars false
set_option linter.unusedVariables false
set_option maxRecDepth 100000

theorem TK : SlT Tryz.prog 108 115 3 32 (Tok.mk 0 [] 0).val := ⟨Tryz.underlying108, ⟨_, rfl, rfl, rfl, rfl⟩, rfl, rfl, by decide, by decide⟩
theorem tkC_snoc (a : List Tok) (t : Tok) : tkC (a ++ [t]) = tkC a ++ t.cells := by rw [tkC_app, tkC_cons, tkC_nil, List.append_nil]
/-- What is answered of tokens. -/
def tokAns (z s' : St) (v : Value) : List Tok ⊕ Nat → Prop
  | .inl ts => ∃ w, v = .tuple #[w, .int .i64 0, .int .i64 0] ∧ OwnN z.next s' w 3 ts.length (tkC ts)
  | .inr k => v = .tuple #[.slice none 0 0, .int .i64 (k : Int), .int .i64 2]
theorem xtokens_spec {z : St} (wf : WF z) (l : List UInt8) : Cw Tryz.prog 50 [sv l] z fun v s' => K0 z s' ∧ tokAns z s' v (tokR l) := by
  have hp : Hp (fun _ => False) z [] [] z := Hp.start _ wf _ (by simp)
  refine Cw.enterS Tryz.func50 rfl rfl ?_
  refine Sm.seqW ?_
  conv => whnf
  refine Sm.live [0] ?_
  conv => whnf
  refine Sm.seq ?_
  refine Sm.seqW ?_
  conv => whnf
  refine Sm.live [0, 11] ?_
  conv => whnf
  refine Sm.ofW ?_
  conv => whnf
  unfold tokR
  by_cases h4 : 400 < l.length
  · have q : decide ((((bs ⟨l.toArray⟩).length : Nat) : Int) > 400) = true := decide_eq_true (by show ((l.length : Nat) : Int) > 400; omega)
    rw [if_pos h4]
    repeat (first | (refine Br.yes q ?_; conv => whnf) | (first | (refine Br.yes (by first | with_reducible rfl | with_reducible exact beq_self_eq_true _ | rfl) ?_; conv => whnf) | (refine Br.no (by first | with_reducible rfl | with_reducible exact bne_self_eq_false _ | rfl) ?_; conv => whnf)))
    exact ⟨hp.fr, rfl⟩
  have q : decide ((((bs ⟨l.toArray⟩).length : Nat) : Int) > 400) = false := decide_eq_false (by show ¬ ((l.length : Nat) : Int) > 400; omega)
  rw [if_neg h4]
  repeat (first | (refine Br.no q ?_; conv => whnf) | (first | (refine Br.yes (by first | with_reducible rfl | with_reducible exact beq_self_eq_true _ | rfl) ?_; conv => whnf) | (refine Br.no (by first | with_reducible rfl | with_reducible exact bne_self_eq_false _ | rfl) ?_; conv => whnf)))
  refine Sm.seqW ?_
  conv => whnf
  refine Sm.live [0, 5] ?_
  conv => whnf
  refine Sm.seqW ?_
  conv => whnf
  refine Sm.live [0, 5, 6] ?_
  conv => whnf
  refine Sm.seq ?_
  refine Sm.block ?_
  refine Sm.loop ?_
  refine Lp.ofS (α := Nat × List Tok × Option Nat × Value) (fun x => [(0, sv l), (5, x.2.2.2), (6, .int .i64 (x.1 : Int))])
    (fun x s' => x.1 ≤ l.length ∧ x.2.1.length ≤ x.1 ∧ afterR x.2.1 (lexF l x.1) = lexF l 0 ∧ Hp (fun _ => False) z [] [onA x.2.2.1 x.2.2.2 3 x.2.1.length (tkC x.2.1)] s') (fun x => l.length - x.1) ?_ (0, [], none, .slice none 0 0) (subK_ok (by refine ⟨rfl, rfl, rfl, trivial⟩))
    ⟨Nat.zero_le _, Nat.le_refl _, by cases lexF l 0 <;> rfl, (hp.nilA 3).pik (by repeat (first | exact Pik.nil | exact Pik.refl _ | exact Rm.here | apply Rm.there | apply Pik.cons | apply Pik.skip))⟩
  clear hp
  rintro ⟨i, out, κ, v⟩ s ⟨hi, ho, hr, hp⟩
  simp only at hi ho hr hp
  refine Sm.seq ?_
  refine Sm.seqW ?_
  conv => whnf
  refine Sm.live [0, 5, 6, 15] ?_
  conv => whnf
  refine Sm.ofW ?_
  conv => whnf
  refine Br.mk (fun hc => ?_) (fun hc => ?_)
  · have hcI : i < l.length := by have h : (i : Int) < (l.length : Int) := of_decide_eq_true hc; omega
    obtain ⟨c, r, hd⟩ : ∃ c r, l.drop i = c :: r := ⟨_, _, List.drop_eq_getElem_cons hcI⟩
    have hci : l[i] = c := by have := List.drop_eq_getElem_cons hcI; rw [hd] at this; injection this with h1 h2; exact h1.symm
    have hrl : l.length - i = r.length + 1 := by have := congrArg List.length hd; simpa using this
    conv => whnf
    refine Sm.block ?_
    refine Sm.seq ?_
    refine Sm.seqW ?_
    conv => whnf
    refine Om.of _ (str_index Tryz.underlying9 (l := l) (i := i) hcI .i64) ?_
    conv => whnf
    rw [hci]
    refine Sm.live [0, 5, 6, 19] ?_
    conv => whnf
    refine Sm.ofW ?_
    conv => whnf
    by_cases h32 : c = 32
    · refine Br.yes ((u8_beq c 32).trans (decide_eq_true h32)) ?_
      conv => whnf
      rw [lexF_blank hd h32] at hr
      exact ⟨(i + 1, out, κ, v), by (show l.length - (i + 1) < l.length - i); omega, subK_ok (by refine ⟨rfl, rfl, congrArg (fun x => some (Value.int .i64 x)) (show IntKind.i64.wrap ((i : Int) + 1) = ((i + 1 : Nat) : Int) by rw [wi64 (by omega) (by omega)]; omega), trivial⟩), by omega, by (show out.length ≤ i + 1); omega, hr, hp⟩
    · refine Br.no ((u8_beq c 32).trans (decide_eq_false h32)) ?_
      conv => whnf
      refine Sm.seqW ?_
      conv => whnf
      refine hp.call (xone_spec hp.wf (by omega) hd) ?_
      clear hp
      rintro _ s ⟨t, rfl, ht⟩ hp _
      conv => whnf
      refine hp.alloc (cs := (Tok.mk 0 [] 0).cells) (e := 3) rfl rfl rfl rfl rfl ?_
      clear hp
      intro p7 s hp _
      conv => whnf
      refine hp.storeW (vs := t.cells) rfl (by repeat (first | exact Rm.here | apply Rm.there)) (by first | exact C2_same _ _ _ _ | exact C4_same _ _ _ _ _ _ _ _ | exact Dc_same _ _ | rfl) rfl rfl rfl ?_
      clear hp
      intro s hp _
      conv => whnf
      refine Sm.live [0, 5, 6, 7, 8] ?_
      conv => whnf
      refine Sm.seq ?_
      refine Sm.seqW ?_
      conv => whnf
      refine Sm.live [0, 5, 6, 7, 29] ?_
      conv => whnf
      refine Sm.ofW ?_
      conv => whnf
      cases hone : oneL c r i with
      | none =>
        repeat (first | (refine Br.yes (by first | with_reducible rfl | with_reducible exact beq_self_eq_true _ | rfl) ?_; conv => whnf) | (refine Br.no (by first | with_reducible rfl | with_reducible exact bne_self_eq_false _ | rfl) ?_; conv => whnf))
        rw [lexF_bad hd h32 hone] at hr
        refine ⟨hp.fr, ?_⟩
        rw [← hr]
        rfl
      | some t' =>
        obtain rfl := ht t' hone
        obtain ⟨t1, t2, t3, t4, t5⟩ := oneL_text hone
        have tl : 0 < t'.text.length := List.length_pos_iff.2 t2
        rw [lexF_tok hd h32 hone, afterR_tok] at hr
        repeat (first | (refine Br.yes (by first | with_reducible rfl | with_reducible exact beq_self_eq_true _ | rfl) ?_; conv => whnf) | (refine Br.no (by first | with_reducible rfl | with_reducible exact bne_self_eq_false _ | rfl) ?_; conv => whnf))
        refine Sm.seqW ?_
        conv => whnf
        refine hp.loadA (l := t'.cells) (by repeat (first | exact Has.here | apply Has.there | (apply Has.swap; repeat (first | exact HasR.here | apply HasR.there)))) rfl (by rfl) rfl rfl ?_
        conv => whnf
        refine hp.lit (cs := t'.cells) (e := 3) (by rfl) ?_
        clear hp
        intro b4 s4 hp _
        conv => whnf
        have x4 := hp.blkSl (n := 1) (C := t'.cells) (k := b4) (b := b4) (e := 3) (by repeat (first | exact Has.here | apply Has.there | (apply Has.swap; repeat (first | exact HasR.here | apply HasR.there)))) rfl
        refine hp.app TK Tryz.underlying108 rfl (κ := κ) (v := v) (by repeat (first | exact Rm.here | apply Rm.there)) (elems_sl x4) rfl rfl (by omega) ?_
        clear hp x4
        intro v5 κ5 s hp
        rw [← tkC_snoc, show out.length + 1 = (out ++ [t']).length by simp] at hp
        conv => whnf
        refine Sm.live [0, 5, 6, 7] ?_
        conv => whnf
        refine Sm.ofW ?_
        conv => whnf
        refine hp.load (v := sv t'.text) (by repeat (first | exact Has.here | apply Has.there | (apply Has.swap; repeat (first | exact HasR.here | apply HasR.there)))) (by rfl) rfl rfl rfl ?_
        conv => whnf
        exact ⟨(i + t'.text.length, out ++ [t'], κ5, v5), by (show l.length - (i + t'.text.length) < l.length - i); omega, subK_ok (by refine ⟨rfl, rfl, congrArg (fun x => some (Value.int .i64 x)) (show IntKind.i64.wrap ((i : Int) + (t'.text.length : Int)) = ((i + t'.text.length : Nat) : Int) by rw [wi64 (by omega) (by omega)]; omega), trivial⟩), by (show i + t'.text.length ≤ l.length); omega, by (show (out ++ [t']).length ≤ i + t'.text.length); simp; omega, hr, hp.pik (by repeat (first | exact Pik.nil | exact Pik.refl _ | exact Rm.here | apply Rm.there | apply Pik.cons | apply Pik.skip))⟩
  · have hcI : l.length ≤ i := by have h : ¬ (i : Int) < (l.length : Int) := of_decide_eq_false hc; omega
    rw [lexF_end hcI] at hr
    conv => whnf
    refine Sm.seqW ?_
    conv => whnf
    refine hp.lit (cs := (Tok.mk 4 [] i).cells) (e := 3) (by rfl) ?_
    clear hp
    intro b4 s4 hp _
    conv => whnf
    have x4 := hp.blkSl (n := 1) (C := (Tok.mk 4 [] i).cells) (k := b4) (b := b4) (e := 3) (by repeat (first | exact Has.here | apply Has.there | (apply Has.swap; repeat (first | exact HasR.here | apply HasR.there)))) rfl
    refine hp.app TK Tryz.underlying108 rfl (κ := κ) (v := v) (by repeat (first | exact Rm.here | apply Rm.there)) (elems_sl x4) rfl rfl (by omega) ?_
    clear hp x4
    intro v5 κ5 s hp
    rw [← tkC_snoc, show out.length + 1 = (out ++ [Tok.mk 4 [] i]).length by simp] at hp
    conv => whnf
    refine Sm.live [2, 3, 4] ?_
    conv => whnf
    refine Sm.ofW ?_
    conv => whnf
    refine ⟨hp.fr, ?_⟩
    rw [← hr]
    exact ⟨v5, rfl, hp.out (by repeat (first | exact Rm.here | apply Rm.there))⟩
end Go.Ev
end

/- The document's Tokens walked. No condition. -/
noncomputable section
namespace Go.Ev
open Go.Proofs
variable [Lk]
set_option linter.unusedSectionVars false
set_option linter.unusedVariables false
set_option maxRecDepth 100000

end Go.Ev
end

/- Tokens in memory; chapter 21's example. No condition. -/
noncomputable section
namespace Go.Ev
open Go.Proofs
variable [Lk]
set_option linter.unusedSectionVars false
set_option linter.unusedVariables false
set_option maxRecDepth 100000

theorem load_agg {P : Program} {t : TypeId} {fs : Array Field} {i : TypeInfo} (hu : P.underlying t = some (.struct fs)) (hi : P.info? t = some i) {s : St} {b off : Nat} {C cs : List Value} (hr : s.rd b = some C) (hs : sl C off i.size = some cs) :
    evLoad P t (.pointer (some ⟨b, off, none⟩)) s = some (.agg cs.toArray) := by
  unfold evLoad
  simp only [hr, hu, hi, hs]
theorem sl_sub {C cs : List Value} {off n i m : Nat} (h : Go.Ev.sl C off n = some cs) (hi : i + m ≤ n) : Go.Ev.sl C (off + i) m = some ((cs.drop i).take m) := by
  obtain ⟨g1, g2, g3, _⟩ := sl_some h
  have e : (List.drop (off + i) C).take m = (cs.drop i).take m := by
    rw [g2, List.drop_take, List.drop_drop, List.take_take, Nat.min_eq_left (by omega)]
  have hl : cs.length = n := by rw [g2]; simp; omega
  unfold Go.Ev.sl
  simp only [e]
  have : ((cs.drop i).take m).length = m := by simp; omega
  rw [this]; simp
theorem index_slN {P : Program} {t et sz by_ : Nat} {z : Value} (T : SlT P t et sz by_ z) {fs : Array Field} (hu : P.underlying et = some (.struct fs)) {s : St} {κ : Option Nat} {v : Value} {n i : Nat} {cs : List Value} (h : Sl s κ v sz n cs) (k : IntKind) (hi : i < n) :
    ∃ a, evIndexAddr P t v (.int k (i : Int)) = some (.pointer (some a)) ∧ evLoad P et (.pointer (some a)) s = some (.agg ((cs.drop (i * sz)).take sz).toArray) := by
  obtain ⟨j, hi1, hi2, hi3, hi4⟩ := T.hi
  rcases h.ex with ⟨rfl, rfl, rfl, rfl⟩ | ⟨b, off, c, C, rfl, hc, hl, hs, hm⟩
  · omega
  · have hr : s.rd b = some C := by
      rcases hm with ⟨k, _, hm⟩ | ⟨_, hm⟩
      · exact hm.rd
      · exact hm.rd
    have hle : i * sz + sz ≤ n * sz := by
      have : (i + 1) * sz ≤ n * sz := Nat.mul_le_mul_right _ hi
      rw [Nat.add_mul, Nat.one_mul] at this; exact this
    refine ⟨⟨b, off + i * sz, none⟩, ?_, load_agg hu hi1 hr (by rw [hi2]; exact sl_sub hs hle)⟩
    show (match P.underlying t, Value.slice (some ⟨b, off, none⟩) n c, Value.int k (.ofNat i) with
        | some (.slice e), .slice (some a) n _, .int _ (.ofNat i) => match Nat.blt i n, P.info? e with
          | true, some j => some (Value.pointer (some ⟨a.block, a.off + i * j.size, none⟩))
          | _, _ => none
        | some (.array n e), .pointer (some a), .int _ (.ofNat i) => match Nat.blt i n, P.info? e with
          | true, some j => some (Value.pointer (some ⟨a.block, a.off + i * j.size, none⟩))
          | _, _ => none
        | _, _, _ => none) = _
    rw [T.hu]
    simp only [blt_of hi, hi1, hi2]
theorem index_tk {s : St} {κ : Option Nat} {v : Value} {l : List Tok} (h : Sl s κ v 3 l.length (tkC l)) (k : IntKind) {i : Nat} (hi : i < l.length) :
    ∃ a, evIndexAddr Tryz.prog 108 v (.int k (i : Int)) = some (.pointer (some a)) ∧ evLoad Tryz.prog 115 (.pointer (some a)) s = some l[i].val := by
  obtain ⟨a, e1, e2⟩ := index_slN TK Tryz.underlying115 h k hi
  rw [tkC_at hi] at e2
  exact ⟨a, e1, e2⟩
end Go.Ev
end

/- Queries are read, without a program. No condition. -/
noncomputable section
namespace Go.Ev
open Go.Proofs
variable [Lk]
set_option linter.unusedSectionVars false
set_option linter.unusedVariables false
set_option maxRecDepth 100000

/-- A node of a condition. -/
structure Qn where
  kind : Int
  field : Int
  sign : List UInt8
  val_ : Dc
  a : Int
  b : Int
def Qn.cells (n : Qn) : List Value := [.int .i64 n.kind, .int .i64 n.field, sv n.sign, .bool n.val_.neg, .int .u64 ((n.val_.c % w64 : Nat) : Int), .int .u64 ((n.val_.c / w64 : Nat) : Int), .int .i64 n.val_.scale, .int .i64 n.a, .int .i64 n.b]
def Qn.val (n : Qn) : Value := .agg #[.int .i64 n.kind, .int .i64 n.field, sv n.sign, .bool n.val_.neg, .int .u64 ((n.val_.c % w64 : Nat) : Int), .int .u64 ((n.val_.c / w64 : Nat) : Int), .int .i64 n.val_.scale, .int .i64 n.a, .int .i64 n.b]
def Qn.zero : Qn := ⟨0, 0, [], ⟨false, 0, 0⟩, 0, 0⟩
def ndC (l : List Qn) : List Value := l.flatMap Qn.cells
theorem ndC_append (a b : List Qn) : ndC (a ++ b) = ndC a ++ ndC b := by simp [ndC]
theorem nd_at {l : List Qn} {i : Nat} (h : i < l.length) : ((ndC l).drop (i * 9)).take 9 = l[i].cells := flat_cells_at _ 9 (fun _ => rfl) h
/-- The value of a number's text. -/
def dcR (l : List UInt8) : Dc := if readOk (bodyF l) = false then Dc.zero else if 10 ^ 30 ≤ valD (wholeF (bodyF l) ++ restF (bodyF l)) then Dc.zero
  else if (hasP l [45] && decide (valD (wholeF (bodyF l) ++ restF (bodyF l)) = 0)) = true then Dc.zero else ⟨hasP l [45], valD (wholeF (bodyF l) ++ restF (bodyF l)), (restF (bodyF l)).length⟩
theorem readF_dcR (l : List UInt8) : readF l = .tuple #[(dcR l).val, .int .i64 (readE l)] := by
  unfold readF readE dcR
  by_cases h1 : readOk (bodyF l) = false
  · simp only [if_pos h1]; rfl
  · by_cases h2 : 10 ^ 30 ≤ valD (wholeF (bodyF l) ++ restF (bodyF l))
    · simp only [if_neg h1, if_pos h2]; rfl
    · by_cases h3 : (hasP l [45] && decide (valD (wholeF (bodyF l) ++ restF (bodyF l)) = 0)) = true
      · simp only [if_neg h1, if_neg h2, if_pos h3]; rfl
      · simp only [if_neg h1, if_neg h2, if_neg h3]; rfl
/-- The reader. -/
structure RS where
  t : List Tok
  l : List Qn
  begun : Nat
  bad : Bool
def RS.nx (r : RS) : Tok := r.t.headD ⟨4, [], 0⟩
def RS.pass (r : RS) : RS := if r.bad = false ∧ 1 < r.t.length then { r with t := r.t.tail } else r
def RS.fail (r : RS) : RS := { r with bad := true }
def RS.is (r : RS) (k : Int) (w : List UInt8) : Bool := !r.bad && (decide (r.nx.kind = k) && decide (r.nx.text = w))
def RS.isS (r : RS) (k : Int) (w : List UInt8) : RS := if r.is k w = true then r.pass else r
def RS.beg (r : RS) (w : List UInt8) : Bool := r.is 1 w && decide (r.begun ≠ 32)
def RS.begS (r : RS) (w : List UInt8) : RS := if r.is 1 w = true then (if r.begun = 32 then r.fail else RS.pass { r with begun := r.begun + 1 }) else r
def RS.put (r : RS) (n : Qn) : RS := if r.bad = true then r else { r with l := r.l ++ [n] }
def RS.putI (r : RS) : Int := if r.bad = true then 0 else (r.l.length : Int)
def fldL : List (List UInt8) := [[], [101, 110, 116, 105, 116, 121], [97, 99, 99, 111, 117, 110, 116], [112, 101, 114, 105, 111, 100], [119, 105, 116, 104], [97, 109, 111, 117, 110, 116]]
/-- Where a text stands in a list; -1: nowhere. -/
def ixS : List (List UInt8) → List UInt8 → Int
  | [], _ => -1
  | x :: l, w => if x = w then 0 else if ixS l w = -1 then -1 else ixS l w + 1
def fldOf (w : List UInt8) : Int := max 0 (ixS fldL w)
def RS.field (r : RS) : Int := if r.bad = true ∨ r.nx.kind ≠ 1 then 0 else fldOf r.nx.text
def RS.numV (r : RS) : Dc := if r.bad = true ∨ r.nx.kind ≠ 2 then Dc.zero else dcR r.nx.text
def RS.numS (r : RS) : RS := if r.bad = true ∨ r.nx.kind ≠ 2 then r.fail else r.pass
def cmpS (w : List UInt8) : Bool := decide (w = [61]) || (decide (w = [60]) || decide (w = [62]))
/-- A test. -/
def testF (r : RS) : Int × RS :=
  if r.field = 0 then (0, r.fail)
  else if r.beg (fldL.getD r.field.toNat []) = false then (0, (r.begS (fldL.getD r.field.toNat [])).fail)
  else
    let r1 := r.begS (fldL.getD r.field.toNat [])
    if r1.nx.kind ≠ 3 ∨ cmpS r1.nx.text = false then (0, r1.fail)
    else
      let r2 := r1.pass
      ((r2.numS).putI, (r2.numS).put ⟨4, r.field, r1.nx.text, r2.numV, 0, 0⟩)
/-- Parts with a word between. -/
def chainL (w : List UInt8) (k : Int) (part : RS → Int × RS) : Nat → Int → RS → Int × RS
  | 0, a, r => (a, r)
  | n + 1, a, r => if r.beg w = true then chainL w k part n (part (r.begS w)).2.putI ((part (r.begS w)).2.put ⟨k, 0, [], Dc.zero, a, (part (r.begS w)).1⟩) else (a, r.begS w)
def chainF (w : List UInt8) (k : Int) (part : RS → Int × RS) (r : RS) : Int × RS := chainL w k part 33 (part r).1 (part r).2
def orT : List UInt8 := [111, 114]
def andT : List UInt8 := [97, 110, 100]
def notT : List UInt8 := [110, 111, 116]
def RS.opens (r : RS) : Bool := decide (r.nx.kind = 3) && decide (r.nx.text = [40])
def RS.nots (r : RS) : Bool := decide (r.nx.kind = 1) && decide (r.nx.text = notT)
/-- A factor that may be so much deeper. -/
def factorF : Nat → RS → Int × RS
  | 0, r => if r.bad = true then (0, r) else if (r.opens || r.nots) = true then (0, r.fail) else testF r
  | n + 1, r =>
    if r.bad = true then (0, r)
    else if r.opens = true then
      let x := chainF orT 2 (chainF andT 1 (factorF n)) r.pass
      if x.2.is 3 [41] = true then (x.1, x.2.isS 3 [41]) else (0, (x.2.isS 3 [41]).fail)
    else if r.nots = true then
      if r.beg notT = true then ((factorF n (r.begS notT)).2.putI, (factorF n (r.begS notT)).2.put ⟨3, 0, [], Dc.zero, (factorF n (r.begS notT)).1, 0⟩) else (0, (r.begS notT).fail)
    else testF r
def condF (n : Nat) (r : RS) : Int × RS := chainF orT 2 (chainF andT 1 (factorF n)) r
/-- What is never lost: a reader that goes on from another one. -/
structure RS.le (r r' : RS) : Prop where
  t : ∃ j, r'.t = r.t.drop j
  ne : r.t ≠ [] → r'.t ≠ []
  lo : r.begun ≤ r'.begun
  hi : r.begun ≤ 32 → r'.begun ≤ 32
  len : r'.l.length + r.begun ≤ r.l.length + r'.begun
theorem RS.le.refl (r : RS) : r.le r := ⟨⟨0, rfl⟩, id, Nat.le_refl _, id, Nat.le_refl _⟩
theorem RS.le.trans {a b c : RS} (h : a.le b) (g : b.le c) : a.le c := by
  obtain ⟨i, hi⟩ := h.t
  obtain ⟨j, hj⟩ := g.t
  refine ⟨⟨i + j, by rw [hj, hi, List.drop_drop]⟩, fun x => g.ne (h.ne x), Nat.le_trans h.lo g.lo, fun x => g.hi (h.hi x), ?_⟩
  have := h.len; have := g.len; omega
theorem RS.le.pass (r : RS) : r.le r.pass := by
  unfold RS.pass
  split
  · rename_i h
    refine ⟨⟨1, by simp⟩, fun _ e => ?_, Nat.le_refl _, id, Nat.le_refl _⟩
    have := congrArg List.length e
    simp at this; omega
  · exact .refl r
theorem RS.le.fail (r : RS) : r.le r.fail := ⟨⟨0, rfl⟩, id, Nat.le_refl _, id, Nat.le_refl _⟩
theorem RS.le.isS (r : RS) (k : Int) (w : List UInt8) : r.le (r.isS k w) := by
  unfold RS.isS
  split
  · exact .pass r
  · exact .refl r
theorem RS.le.begS (r : RS) (w : List UInt8) : r.le (r.begS w) := by
  unfold RS.begS
  split
  · split
    · exact .fail r
    · rename_i h
      exact RS.le.trans (b := { r with begun := r.begun + 1 }) ⟨⟨0, rfl⟩, id, Nat.le_succ _, fun x => by show r.begun + 1 ≤ 32; omega, by show r.l.length + r.begun ≤ r.l.length + (r.begun + 1); omega⟩ (.pass _)
  · exact .refl r
/-- Begun: one more node may be put. -/
theorem RS.beg_le {r : RS} {w : List UInt8} (h : r.beg w = true) : (r.begS w).begun = r.begun + 1 ∧ (r.begS w).l = r.l := by
  unfold RS.beg at h
  simp only [Bool.and_eq_true, decide_eq_true_eq] at h
  unfold RS.begS
  rw [if_pos h.1, if_neg h.2]
  unfold RS.pass
  split <;> exact ⟨rfl, rfl⟩
theorem RS.le.put {r r' : RS} {w : List UInt8} (h : r.beg w = true) (g : (r.begS w).le r') (n : Qn) : r.le (r'.put n) := by
  obtain ⟨e1, e2⟩ := RS.beg_le h
  obtain ⟨k1, k2, k3, k4, k5⟩ := (RS.le.begS r w).trans g
  have := g.len
  unfold RS.put
  split
  · exact ⟨k1, k2, k3, k4, k5⟩
  · exact ⟨k1, k2, k3, k4, by simp only [List.length_append, List.length_singleton]; rw [e1, e2] at this; omega⟩
theorem RS.le.numS (r : RS) : r.le r.numS := by
  unfold RS.numS
  split
  · exact .fail r
  · exact .pass r
theorem testF_le (r : RS) : r.le (testF r).2 := by
  unfold testF
  split
  · exact .fail r
  · split
    · exact (RS.le.begS r _).trans (.fail _)
    · rename_i h
      simp only
      split
      · exact (RS.le.begS r _).trans (.fail _)
      · exact RS.le.put (w := fldL.getD r.field.toNat []) (by simpa using h) ((RS.le.pass _).trans (.numS _)) _
theorem chainL_le {w : List UInt8} {k : Int} {part : RS → Int × RS} (hp : ∀ r : RS, r.le (part r).2) : ∀ (n : Nat) (a : Int) (r : RS), r.le (chainL w k part n a r).2
  | 0, a, r => .refl r
  | n + 1, a, r => by
    unfold chainL
    split
    · rename_i h
      exact (RS.le.put h (hp _) _).trans (chainL_le hp n _ _)
    · exact .begS r w
theorem chainF_le {w : List UInt8} {k : Int} {part : RS → Int × RS} (hp : ∀ r : RS, r.le (part r).2) (r : RS) : r.le (chainF w k part r).2 := (hp r).trans (chainL_le hp _ _ _)
theorem factorF_le : ∀ (n : Nat) (r : RS), r.le (factorF n r).2
  | 0, r => by
    unfold factorF
    split
    · exact .refl r
    · split
      · exact .fail r
      · exact testF_le r
  | n + 1, r => by
    unfold factorF
    split
    · exact .refl r
    · split
      · simp only
        have : r.le (chainF orT 2 (chainF andT 1 (factorF n)) r.pass).2 := (RS.le.pass r).trans (chainF_le (chainF_le (factorF_le n)) r.pass)
        split
        · exact this.trans (.isS _ _ _)
        · exact (this.trans (.isS _ _ _)).trans (.fail _)
      · split
        · split
          · rename_i h
            exact RS.le.put h (factorF_le n _) _
          · exact (RS.le.begS _ _).trans (.fail _)
        · exact testF_le r
theorem condF_le (n : Nat) (r : RS) : r.le (condF n r).2 := chainF_le (chainF_le (factorF_le n)) r
end Go.Ev
end

/- The reader of queries in memory: next, pass, fail. No condition. -/
noncomputable section
namespace Go.Ev
open Go.Proofs
variable [Lk]
set_option linter.unusedSectionVars false
set_option linter.unusedVariables false
set_option maxRecDepth 100000

theorem tkC_drop (ts : List Tok) (j : Nat) : (tkC ts).drop (j * 3) = tkC (ts.drop j) := by
  have e : ∀ l, tkC l = l.flatMap Tok.cells := fun l => rfl
  rw [e, e]
  exact flat_cells_drop Tok.cells 3 (fun _ => rfl) ts j
/-- The cells of a reader. -/
def rdC (tv vl : Value) (r : RS) : List Value := [tv, vl, .int .i64 (r.begun : Int), .bool r.bad]
/-- The tokens that are left, as a slice of all. -/
structure TvOk (toks : List Tok) (tb toff tc : Nat) (tv : Value) (r : RS) : Prop where
  ex : ∃ j, j < toks.length ∧ r.t = toks.drop j ∧ tv = .slice (some ⟨tb, toff + j * 3, none⟩) (toks.length - j) (tc - j)
theorem TvOk.ne {toks : List Tok} {tb toff tc : Nat} {tv : Value} {r : RS} (g : TvOk toks tb toff tc tv r) : r.t ≠ [] := by
  obtain ⟨j, h1, h2, -⟩ := g.ex
  intro e
  have := congrArg List.length (h2.symm.trans e)
  simp at this; omega
theorem TvOk.same {toks : List Tok} {tb toff tc : Nat} {tv : Value} {r r' : RS} (g : TvOk toks tb toff tc tv r) (e : r'.t = r.t) : TvOk toks tb toff tc tv r' := by
  obtain ⟨j, h1, h2, h3⟩ := g.ex
  exact ⟨j, h1, e.trans h2, h3⟩
theorem tv_sl {s : St} {κt : Option Nat} {toks : List Tok} {tb toff tc : Nat} {tv : Value} {r : RS} (h : Sl s κt (.slice (some ⟨tb, toff, none⟩) toks.length tc) 3 toks.length (tkC toks)) (g : TvOk toks tb toff tc tv r) :
    Sl s κt tv 3 r.t.length (tkC r.t) := by
  obtain ⟨j, h1, h2, rfl⟩ := g.ex
  rcases h.ex with ⟨e, _⟩ | ⟨b, off, c, C, e, hc, hl, hs, hm⟩
  · cases e
  · injection e with e1 e2 e3
    injection e1 with e1
    injection e1 with e1 e4 e5
    subst e1 e4 e3
    have hn : r.t.length = toks.length - j := by rw [h2, List.length_drop]
    rw [hn, h2]
    have := u_sl_sub hs (i := j * 3) (m := (toks.length - j) * 3) (by omega)
    rw [tkC_drop, List.take_of_length_le (by rw [tkC_len, List.length_drop]; omega)] at this
    exact ⟨.inr ⟨_, _, _, C, rfl, by omega, by rw [tkC_len, List.length_drop], this, hm⟩⟩
theorem slice_one {P : Program} {t et sz by_ : Nat} {z : Value} (T : SlT P t et sz by_ z) {s : St} {κ : Option Nat} {b off c n : Nat} {cs : List Value} (h : Sl s κ (.slice (some ⟨b, off, none⟩) n c) sz n cs) (hn : 1 ≤ n) :
    evSliceMem P t (.slice (some ⟨b, off, none⟩) n c) (some (.int .i64 ((1 : Nat) : Int))) none none s = some (.slice (some ⟨b, off + 1 * sz, none⟩) (n - 1) (c - 1)) := by
  obtain ⟨i, hi1, hi2, hi3, hi4⟩ := T.hi
  rcases h.ex with ⟨e, _⟩ | ⟨b', off', c', C, e, hc, hl, hs, hm⟩
  · cases e
  · injection e with e1 e2 e3
    injection e1 with e1
    injection e1 with e1 e4 e5
    subst e1 e4 e3
    have hez : blkEsz s b = some sz := by
      rcases hm with ⟨k, _, hm⟩ | ⟨_, hm⟩
      · exact hm.esz
      · exact hm.esz
    have hb : bnds n c (some (.int .i64 ((1 : Nat) : Int))) none none = some (1, n, c) := by
      unfold bnds
      simp only
      rw [bnd_nat hn]
    unfold evSliceMem; rw [T.hu]; simp only [hi1, hez, hi2, Nat.beq_refl, hb]
theorem headD_at (l : List Tok) (h : 0 < l.length) : l[0] = l.headD ⟨4, [], 0⟩ := by
  cases l with
  | nil => simp at h
  | cons x l => rfl
section
variable {X : Nat → Prop} {s0 s : St} {R F : List At} {κt : Option Nat} {toks : List Tok} {tb toff tc p : Nat} {tv vl : Value} {r : RS}
theorem next_spec (wf : WF s) (hb : Blk s p p (rdC tv vl r) 4) (hs : Sl s κt (.slice (some ⟨tb, toff, none⟩) toks.length tc) 3 toks.length (tkC toks)) (hv : TvOk toks tb toff tc tv r) :
    Cw Tryz.prog 52 [.pointer (some ⟨p, 0, none⟩)] s fun v s' => K0 s s' ∧ v = r.nx.val := by
  have hp : Hp (fun _ => False) s [blkA p p (rdC tv vl r) 4, slA κt tv 3 r.t.length (tkC r.t)] [] s := Hp.start _ wf _ (by simp; exact ⟨hb, tv_sl hs hv⟩)
  refine Cw.enterS Tryz.func52 rfl rfl ?_
  refine Sm.seqW ?_
  conv => whnf
  refine hp.alloc (cs := (Tok.mk 0 [] 0).cells) (e := 3) rfl rfl rfl rfl rfl ?_
  clear hp
  intro p2 s hp _
  conv => whnf
  refine Sm.live [0, 2] ?_
  conv => whnf
  refine Sm.seqW ?_
  conv => whnf
  refine hp.load (v := tv) (by repeat (first | exact Has.here | apply Has.there | (apply Has.swap; repeat (first | exact HasR.here | apply HasR.there)))) (by rfl) rfl rfl rfl ?_
  conv => whnf
  have hne := List.length_pos_iff.2 hv.ne
  obtain ⟨a, e1, e2⟩ := index_tk (hp.slR (.there .here)) .i64 (i := 0) hne
  have hx : r.t[0] = r.nx := headD_at r.t hne
  rw [hx] at e2
  refine Om.of _ (e1) ?_
  conv => whnf
  refine Om.of _ (e2) ?_
  conv => whnf
  generalize r.nx = x
  refine hp.storeW (vs := x.cells) (C := (Tok.mk 0 [] 0).cells) rfl (by repeat (first | exact Rm.here | apply Rm.there)) (by rfl) rfl rfl rfl ?_
  clear hp
  intro s hp _
  conv => whnf
  refine Sm.ofW ?_
  conv => whnf
  refine hp.loadA (l := x.cells) (by repeat (first | exact Has.here | apply Has.there | (apply Has.swap; repeat (first | exact HasR.here | apply HasR.there)))) rfl (by rfl) rfl rfl ?_
  conv => whnf
  exact ⟨hp.fr, rfl⟩
theorem fail_spec (hp : Hp X s0 R (blkA p p (rdC tv vl r) 4 :: F) s) {K : Value → St → Prop} (hK : ∀ s', Hp X s0 R (blkA p p (rdC tv vl r.fail) 4 :: F) s' → K (.int .i64 0) s') :
    Cw Tryz.prog 102 [.pointer (some ⟨p, 0, none⟩)] s K := by
  refine Cw.enterS Tryz.func102 rfl rfl ?_
  refine Sm.seqW ?_
  conv => whnf
  refine Sm.live [0] ?_
  conv => whnf
  refine Sm.seqW ?_
  conv => whnf
  (refine hp.store (by repeat (first | exact Rm.here | apply Rm.there)) (by first | exact of_decide_eq_true rfl | (simp; done) | (simp; omega) | omega) rfl rfl rfl rfl ?_; intro s hp _; conv => whnf)
  refine Sm.seqW ?_
  conv => whnf
  refine Sm.ofW ?_
  conv => whnf
  exact ⟨hK _ hp⟩
theorem pass_spec (hp : Hp X s0 R (blkA p p (rdC tv vl r) 4 :: F) s) (ht : HasR (slA κt (.slice (some ⟨tb, toff, none⟩) toks.length tc) 3 toks.length (tkC toks)) R) (hv : TvOk toks tb toff tc tv r) {K : Value → St → Prop}
    (hK : ∀ tv' s', TvOk toks tb toff tc tv' r.pass → Hp X s0 R (blkA p p (rdC tv' vl r.pass) 4 :: F) s' → K (.tuple #[]) s') :
    Cw Tryz.prog 105 [.pointer (some ⟨p, 0, none⟩)] s K := by
  have hsl := tv_sl (hp.slR ht) hv
  have hne := List.length_pos_iff.2 hv.ne
  obtain ⟨j, h1, h2, rfl⟩ := hv.ex
  have hlen : r.t.length = toks.length - j := by rw [h2, List.length_drop]
  refine Cw.enterS Tryz.func105 rfl rfl ?_
  refine Sm.seqW ?_
  conv => whnf
  obtain ⟨t, l, begun, bad⟩ := r
  simp only at h2 hlen hne hsl
  rw [hlen] at hsl
  cases bad with
  | true =>
    (refine hp.load (by repeat (first | exact Has.here | apply Has.there | (apply Has.swap; repeat (first | exact HasR.here | apply HasR.there)))) (by rfl) rfl rfl rfl ?_; conv => whnf)
    repeat (first | (refine Br.yes (by first | with_reducible rfl | with_reducible exact beq_self_eq_true _ | rfl) ?_; conv => whnf) | (refine Br.no (by first | with_reducible rfl | with_reducible exact bne_self_eq_false _ | rfl) ?_; conv => whnf))
    refine Sm.live [0, 14] ?_
    conv => whnf
    refine Sm.ofW ?_
    conv => whnf
    refine Br.no rfl ?_
    conv => whnf
    exact ⟨hK _ _ (hv.same (by unfold RS.pass; rw [if_neg (fun h => by cases h.1)])) hp⟩
  | false =>
    (refine hp.load (by repeat (first | exact Has.here | apply Has.there | (apply Has.swap; repeat (first | exact HasR.here | apply HasR.there)))) (by rfl) rfl rfl rfl ?_; conv => whnf)
    repeat (first | (refine Br.yes (by first | with_reducible rfl | with_reducible exact beq_self_eq_true _ | rfl) ?_; conv => whnf) | (refine Br.no (by first | with_reducible rfl | with_reducible exact bne_self_eq_false _ | rfl) ?_; conv => whnf))
    refine hp.load (v := .slice (some ⟨tb, toff + j * 3, none⟩) (toks.length - j) (tc - j)) (by repeat (first | exact Has.here | apply Has.there | (apply Has.swap; repeat (first | exact HasR.here | apply HasR.there)))) (by rfl) rfl rfl rfl ?_
    conv => whnf
    repeat (first | (refine Br.yes (by first | with_reducible rfl | with_reducible exact beq_self_eq_true _ | rfl) ?_; conv => whnf) | (refine Br.no (by first | with_reducible rfl | with_reducible exact bne_self_eq_false _ | rfl) ?_; conv => whnf))
    by_cases hl1 : 1 < t.length
    · have q : decide (((toks.length - j : Nat) : Int) > 1) = true := decide_eq_true (by omega)
      repeat (first | (refine Br.yes q ?_; conv => whnf) | (first | (refine Br.yes (by first | with_reducible rfl | with_reducible exact beq_self_eq_true _ | rfl) ?_; conv => whnf) | (refine Br.no (by first | with_reducible rfl | with_reducible exact bne_self_eq_false _ | rfl) ?_; conv => whnf)))
      refine Sm.live [0, 14] ?_
      conv => whnf
      refine Sm.ofW ?_
      conv => whnf
      refine Br.yes q ?_
      conv => whnf
      refine hp.load (v := .slice (some ⟨tb, toff + j * 3, none⟩) (toks.length - j) (tc - j)) (by repeat (first | exact Has.here | apply Has.there | (apply Has.swap; repeat (first | exact HasR.here | apply HasR.there)))) (by rfl) rfl rfl rfl ?_
      conv => whnf
      refine Om.of _ (slice_one TK hsl (by omega)) ?_
      conv => whnf
      (refine hp.store (by repeat (first | exact Rm.here | apply Rm.there)) (by first | exact of_decide_eq_true rfl | (simp; done) | (simp; omega) | omega) rfl rfl rfl rfl ?_; intro s hp _; conv => whnf)
      have e : RS.pass ⟨t, l, begun, false⟩ = ⟨t.tail, l, begun, false⟩ := if_pos ⟨rfl, hl1⟩
      rw [e] at hK
      exact ⟨hK _ _ ⟨j + 1, by omega, by rw [h2]; simp, by rw [show toff + (j + 1) * 3 = toff + j * 3 + 1 * 3 by omega]; simp only [Nat.sub_sub]⟩ hp⟩
    · have q : decide (((toks.length - j : Nat) : Int) > 1) = false := decide_eq_false (by omega)
      repeat (first | (refine Br.no q ?_; conv => whnf) | (first | (refine Br.yes (by first | with_reducible rfl | with_reducible exact beq_self_eq_true _ | rfl) ?_; conv => whnf) | (refine Br.no (by first | with_reducible rfl | with_reducible exact bne_self_eq_false _ | rfl) ?_; conv => whnf)))
      refine Sm.live [0, 14] ?_
      conv => whnf
      refine Sm.ofW ?_
      conv => whnf
      refine Br.no q ?_
      conv => whnf
      have e : RS.pass ⟨t, l, begun, false⟩ = ⟨t, l, begun, false⟩ := if_neg fun h => hl1 h.2
      rw [e] at hK
      exact ⟨hK _ _ hv hp⟩
end
end Go.Ev
end

/- The reader of queries in memory: is, begin, put, inner, field, number. No condition. -/
noncomputable section
namespace Go.Ev
open Go.Proofs
variable [Lk]
set_option linter.unusedSectionVars false
set_option linter.unusedVariables false
set_option maxRecDepth 100000

theorem QN : SlT Tryz.prog 41 51 9 80 Qn.zero.val := ⟨Tryz.underlying41, ⟨_, rfl, rfl, rfl, rfl⟩, rfl, rfl, by decide, by decide⟩
theorem FS : SlT Tryz.prog 98 9 1 16 (.string ⟨#[]⟩) := ⟨Tryz.underlying98, ⟨_, rfl, rfl, rfl, rfl⟩, rfl, rfl, by decide, by decide⟩
theorem fields_spec {z : St} (wf : WF z) : Cw Tryz.prog 42 [] z fun v s' => K0 z s' ∧ OwnN z.next s' v 1 6 (fldL.map sv) := by
  have hp : Hp (fun _ => False) z [] [] z := Hp.start _ wf _ (by simp)
  refine Cw.enterS Tryz.func42 rfl rfl ?_
  refine Sm.seqW ?_
  conv => whnf
  refine Sm.seqW ?_
  conv => whnf
  refine hp.lit (cs := fldL.map sv) (e := 1) rfl ?_
  clear hp
  intro b1 s hp _
  conv => whnf
  refine Sm.live [0] ?_
  conv => whnf
  refine Sm.ofW ?_
  conv => whnf
  replace hp := hp.blkOnU (n := 6) .here rfl
  exact ⟨hp.fr, hp.out .here⟩
theorem ixS_cons (x : List UInt8) (l : List (List UInt8)) (w : List UInt8) (h : x ≠ w) : ixS (x :: l) w = if ixS l w = -1 then -1 else ixS l w + 1 := by
  show (if x = w then 0 else if ixS l w = -1 then -1 else ixS l w + 1) = _
  rw [if_neg h]
theorem ixS_lo : ∀ (l : List (List UInt8)) (w : List UInt8), -1 ≤ ixS l w
  | [], _ => Int.le_refl _
  | x :: l, w => by
    have := ixS_lo l w
    unfold ixS
    split
    · decide
    · split <;> omega
theorem sindex_spec {z : St} (wf : WF z) {κ : Option Nat} {v : Value} {l : List (List UInt8)} (hv : Sl z κ v 1 l.length (l.map sv)) (hn : l.length ≤ 100000) (w : List UInt8) :
    Cw Tryz.prog 149 [v, sv w] z fun r s' => K0 z s' ∧ r = .int .i64 (ixS l w) := by
  have hp : Hp (fun _ => False) z [slA κ v 1 l.length (l.map sv)] [] z := Hp.start _ wf _ (by simp; exact hv)
  obtain ⟨a, cp, rfl⟩ := hv.shape
  refine Cw.enterS Tryz.func149 rfl rfl ?_
  refine Sm.seqW ?_
  conv => whnf
  refine Sm.live [0, 1] ?_
  conv => whnf
  refine Sm.seq ?_
  refine Sm.seqW ?_
  conv => whnf
  refine Sm.live [0, 1, 7, 8] ?_
  conv => whnf
  refine Sm.block ?_
  refine Sm.loop ?_
  refine Lp.ofS (α := Nat) (fun x => [(0, .slice a l.length cp), (1, sv w), (7, .int .i64 (l.length : Int)), (8, .int .i64 (x : Int))])
    (fun x s' => x ≤ l.length ∧ ixS l w = (if ixS (l.drop x) w = -1 then -1 else ixS (l.drop x) w + (x : Int)) ∧ Hp (fun _ => False) z [slA κ (.slice a l.length cp) 1 l.length (l.map sv)] [] s')
    (fun x => l.length - x) ?_ 0 (subK_ok (by refine ⟨rfl, rfl, rfl, rfl, trivial⟩)) ⟨Nat.zero_le _, by rw [List.drop_zero]; split <;> omega, hp⟩
  clear hp
  rintro i s ⟨hi, hx, hp⟩
  refine Sm.seqW ?_
  conv => whnf
  refine Sm.seq ?_
  refine Sm.ofW ?_
  conv => whnf
  refine Br.mk (fun hq => ?_) (fun hq => ?_)
  · have hi2 : i < l.length := by have := of_decide_eq_true hq; omega
    have e6 : IntKind.i64.wrap ((i : Int) + 1) = ((i + 1 : Nat) : Int) := by rw [wi64 (by omega) (by omega)]; omega
    conv => whnf
    refine Sm.seq ?_
    refine Sm.block ?_
    refine Sm.seqW ?_
    conv => whnf
    refine Sm.live [0, 1, 5, 7, 8] ?_
    conv => whnf
    refine Sm.seqW ?_
    conv => whnf
    obtain ⟨p, z1, i1, h1, g1, _⟩ := index_sl FS Tryz.underlying9 rfl (hp.slR .here) .i64 hi2
    obtain rfl : z1 = sv l[i] := by simp [List.getElem?_eq_getElem hi2] at h1; exact h1.symm
    refine Om.of _ (i1) ?_
    conv => whnf
    refine Om.of _ (g1) ?_
    conv => whnf
    refine Om.of _ (sv_eq w l[i]) ?_
    conv => whnf
    rw [List.drop_eq_getElem_cons hi2] at hx
    refine Sm.live [0, 1, 5, 7, 8, 16] ?_
    conv => whnf
    refine Sm.ofW ?_
    conv => whnf
    by_cases e : l[i] = w
    · refine Br.yes (by rw [beq_iff_eq]; exact e.symm) ?_
      conv => whnf
      have : ixS (l[i] :: l.drop (i + 1)) w = 0 := if_pos e
      rw [this, if_neg (by decide)] at hx
      rw [hx]
      exact ⟨hp.fr, congrArg (Value.int .i64) (Int.zero_add _).symm⟩
    · refine Br.no (by rw [beq_eq_false_iff_ne]; exact fun h => e h.symm) ?_
      conv => whnf
      refine Sm.ofW ?_
      conv => whnf
      rw [ixS_cons _ _ _ e] at hx
      have hlo := ixS_lo (l.drop (i + 1)) w
      exact ⟨i + 1, by (show l.length - (i + 1) < l.length - i); omega, subK_ok (by refine ⟨rfl, rfl, rfl, congrArg (fun x => some (Value.int .i64 x)) e6, trivial⟩), hi2, by
        rw [hx]
        generalize ixS (l.drop (i + 1)) w = y at hlo
        by_cases g : y = -1
        · subst g; rfl
        · rw [if_neg g, if_neg (by omega), if_neg g]; push_cast; omega, hp⟩
  · have hi2 : i = l.length := by have := of_decide_eq_false hq; omega
    subst hi2
    rw [List.drop_length] at hx
    have : ixS [] w = -1 := rfl
    rw [this, if_pos rfl] at hx
    conv => whnf
    refine Sm.seqW ?_
    conv => whnf
    refine Sm.ofW ?_
    conv => whnf
    exact ⟨hp.fr, congrArg (Value.int .i64) hx.symm⟩
section
variable {X : Nat → Prop} {s0 s : St} {R F : List At} {κt : Option Nat} {toks : List Tok} {tb toff tc p : Nat} {tv vl : Value} {r : RS}
theorem is_spec (hp : Hp X s0 R (blkA p p (rdC tv vl r) 4 :: F) s) (ht : HasR (slA κt (.slice (some ⟨tb, toff, none⟩) toks.length tc) 3 toks.length (tkC toks)) R) (hv : TvOk toks tb toff tc tv r) (k : Int) (w : List UInt8) {K : Value → St → Prop}
    (hK : ∀ tv' s', TvOk toks tb toff tc tv' (r.isS k w) → Hp X s0 R (blkA p p (rdC tv' vl (r.isS k w)) 4 :: F) s' → K (.bool (r.is k w)) s') :
    Cw Tryz.prog 101 [.pointer (some ⟨p, 0, none⟩), .int .i64 k, sv w] s K := by
  refine Cw.enterS Tryz.func101 rfl rfl ?_
  refine Sm.seqW ?_
  conv => whnf
  refine Sm.live [0, 1, 2] ?_
  conv => whnf
  refine Sm.seq ?_
  refine Sm.seqW ?_
  conv => whnf
  refine hp.load (v := .bool r.bad) (by repeat (first | exact Has.here | apply Has.there | (apply Has.swap; repeat (first | exact HasR.here | apply HasR.there)))) (by rfl) rfl rfl rfl ?_
  conv => whnf
  cases hb : r.bad with
  | true =>
    repeat (first | (refine Br.yes (by first | with_reducible rfl | with_reducible exact beq_self_eq_true _ | rfl) ?_; conv => whnf) | (refine Br.no (by first | with_reducible rfl | with_reducible exact bne_self_eq_false _ | rfl) ?_; conv => whnf))
    refine Sm.live [0, 24] ?_
    conv => whnf
    refine Sm.ofW ?_
    conv => whnf
    refine Br.yes rfl ?_
    conv => whnf
    have e : r.is k w = false := by unfold RS.is; rw [hb]; rfl
    have e2 : r.isS k w = r := if_neg (by rw [e]; decide)
    rw [e, e2] at hK
    exact ⟨hK _ _ hv hp⟩
  | false =>
    repeat (first | (refine Br.yes (by first | with_reducible rfl | with_reducible exact beq_self_eq_true _ | rfl) ?_; conv => whnf) | (refine Br.no (by first | with_reducible rfl | with_reducible exact bne_self_eq_false _ | rfl) ?_; conv => whnf))
    refine hp.call (next_spec hp.wf (hp.blk (by repeat (first | exact Has.here | apply Has.there | (apply Has.swap; repeat (first | exact HasR.here | apply HasR.there))))) (hp.slR ht) hv) ?_
    clear hp
    rintro _ s rfl hp _
    conv => whnf
    have hx : r.is k w = (decide (r.nx.kind = k) && decide (r.nx.text = w)) := by unfold RS.is; rw [hb]; rfl
    have hx2 : r.isS k w = if r.is k w = true then r.pass else r := rfl
    by_cases h1 : r.nx.kind = k
    · have q1 : (r.nx.kind != k) = false := by simp [h1]
      repeat (first | (refine Br.no q1 ?_; conv => whnf) | (first | (refine Br.yes (by first | with_reducible rfl | with_reducible exact beq_self_eq_true _ | rfl) ?_; conv => whnf) | (refine Br.no (by first | with_reducible rfl | with_reducible exact bne_self_eq_false _ | rfl) ?_; conv => whnf)))
      refine hp.call (next_spec hp.wf (hp.blk (by repeat (first | exact Has.here | apply Has.there | (apply Has.swap; repeat (first | exact HasR.here | apply HasR.there))))) (hp.slR ht) hv) ?_
      clear hp
      rintro _ s rfl hp _
      conv => whnf
      repeat (first | (refine Br.no q1 ?_; conv => whnf) | (first | (refine Br.yes (by first | with_reducible rfl | with_reducible exact beq_self_eq_true _ | rfl) ?_; conv => whnf) | (refine Br.no (by first | with_reducible rfl | with_reducible exact bne_self_eq_false _ | rfl) ?_; conv => whnf)))
      refine Om.of _ (sv_ne r.nx.text w) ?_
      conv => whnf
      by_cases h2 : r.nx.text = w
      · have q2 : (!(r.nx.text == w)) = false := by simp [h2]
        rw [q2]
        repeat (first | (refine Br.no q1 ?_; conv => whnf) | (first | (refine Br.yes (by first | with_reducible rfl | with_reducible exact beq_self_eq_true _ | rfl) ?_; conv => whnf) | (refine Br.no (by first | with_reducible rfl | with_reducible exact bne_self_eq_false _ | rfl) ?_; conv => whnf)))
        refine Sm.live [0, 24] ?_
        conv => whnf
        refine Sm.ofW ?_
        conv => whnf
        refine Br.no rfl ?_
        conv => whnf
        refine Sm.seqW ?_
        conv => whnf
        rw [h1, h2] at hx
        have hx : r.is k w = true := by rw [hx]; simp
        rw [hx, if_pos rfl] at hx2
        rw [hx, hx2] at hK
        refine pass_spec hp ht hv ?_
        clear hp
        intro tv' s hv' hp
        conv => whnf
        refine Sm.seqW ?_
        conv => whnf
        refine Sm.ofW ?_
        conv => whnf
        exact ⟨hK _ _ hv' hp⟩
      · have q2 : (!(r.nx.text == w)) = true := by simp [h2]
        rw [q2]
        repeat (first | (refine Br.no q1 ?_; conv => whnf) | (first | (refine Br.yes (by first | with_reducible rfl | with_reducible exact beq_self_eq_true _ | rfl) ?_; conv => whnf) | (refine Br.no (by first | with_reducible rfl | with_reducible exact bne_self_eq_false _ | rfl) ?_; conv => whnf)))
        refine Sm.live [0, 24] ?_
        conv => whnf
        refine Sm.ofW ?_
        conv => whnf
        refine Br.yes rfl ?_
        conv => whnf
        have hx : r.is k w = false := by rw [hx]; simp [h2]
        rw [hx, if_neg (by decide)] at hx2
        rw [hx, hx2] at hK
        exact ⟨hK _ _ hv hp⟩
    · have q1 : (r.nx.kind != k) = true := by simp [h1]
      repeat (first | (refine Br.yes q1 ?_; conv => whnf) | (first | (refine Br.yes (by first | with_reducible rfl | with_reducible exact beq_self_eq_true _ | rfl) ?_; conv => whnf) | (refine Br.no (by first | with_reducible rfl | with_reducible exact bne_self_eq_false _ | rfl) ?_; conv => whnf)))
      refine Sm.live [0, 24] ?_
      conv => whnf
      refine Sm.ofW ?_
      conv => whnf
      refine Br.yes rfl ?_
      conv => whnf
      have hx : r.is k w = false := by rw [hx]; simp [h1]
      rw [hx, if_neg (by decide)] at hx2
      rw [hx, hx2] at hK
      exact ⟨hK _ _ hv hp⟩
end
end Go.Ev
end

/- The reader of queries in memory: begin, put, inner, field, number. No condition. -/
noncomputable section
namespace Go.Ev
open Go.Proofs
variable [Lk]
set_option linter.unusedSectionVars false
set_option linter.unusedVariables false
set_option maxRecDepth 100000

theorem compares_spec (s : St) (w : List UInt8) : Cw Tryz.prog 217 [sv w] s fun r s' => s' = s ∧ r = .bool (cmpS w) := by
  refine Cw.enterS Tryz.func217 rfl rfl ?_
  refine Sm.seqW ?_
  conv => whnf
  refine Sm.live [0] ?_
  conv => whnf
  refine Sm.seqC (fun e L' s' => e = .normal ∧ s' = s ∧ Sub [(2, .bool (cmpS w))] L') ?_ ?_
  · conv => whnf
    have e : ∀ a : List UInt8, (w == a) = decide (w = a) := fun a => by rw [Bool.eq_iff_iff, beq_iff_eq, decide_eq_true_iff]
    refine Om.of _ (sv_eq w [61]) ?_
    conv => whnf
    rw [e]
    cases h1 : decide (w = [61]) with
    | true =>
      repeat (first | (refine Br.yes (by first | with_reducible rfl | with_reducible exact beq_self_eq_true _ | rfl) ?_; conv => whnf) | (refine Br.no (by first | with_reducible rfl | with_reducible exact bne_self_eq_false _ | rfl) ?_; conv => whnf))
      exact ⟨rfl, rfl, subK_ok ⟨congrArg (fun x => some (Value.bool x)) (by unfold cmpS; rw [h1]; rfl), trivial⟩⟩
    | false =>
      repeat (first | (refine Br.yes (by first | with_reducible rfl | with_reducible exact beq_self_eq_true _ | rfl) ?_; conv => whnf) | (refine Br.no (by first | with_reducible rfl | with_reducible exact bne_self_eq_false _ | rfl) ?_; conv => whnf))
      refine Om.of _ (sv_eq w [60]) ?_
      conv => whnf
      rw [e]
      cases h2 : decide (w = [60]) with
      | true =>
        repeat (first | (refine Br.yes (by first | with_reducible rfl | with_reducible exact beq_self_eq_true _ | rfl) ?_; conv => whnf) | (refine Br.no (by first | with_reducible rfl | with_reducible exact bne_self_eq_false _ | rfl) ?_; conv => whnf))
        exact ⟨rfl, rfl, subK_ok ⟨congrArg (fun x => some (Value.bool x)) (by unfold cmpS; rw [h1, h2]; rfl), trivial⟩⟩
      | false =>
        repeat (first | (refine Br.yes (by first | with_reducible rfl | with_reducible exact beq_self_eq_true _ | rfl) ?_; conv => whnf) | (refine Br.no (by first | with_reducible rfl | with_reducible exact bne_self_eq_false _ | rfl) ?_; conv => whnf))
        refine Om.of _ (sv_eq w [62]) ?_
        conv => whnf
        rw [e]
        repeat (first | (refine Br.yes (by first | with_reducible rfl | with_reducible exact beq_self_eq_true _ | rfl) ?_; conv => whnf) | (refine Br.no (by first | with_reducible rfl | with_reducible exact bne_self_eq_false _ | rfl) ?_; conv => whnf))
        exact ⟨rfl, rfl, subK_ok ⟨congrArg (fun x => some (Value.bool x)) (by unfold cmpS; rw [h1, h2]; rfl), trivial⟩⟩
  rintro e L' s' ⟨rfl, h1, hs⟩
  obtain rfl := h1.symm
  refine Sm.weak _ hs ?_
  clear hs
  refine Sm.ofW ?_
  conv => whnf
  exact ⟨rfl, rfl⟩
section
variable {X : Nat → Prop} {s0 s : St} {R F : List At} {κt : Option Nat} {toks : List Tok} {tb toff tc p : Nat} {tv vl : Value} {r : RS}
theorem begin_spec (hp : Hp X s0 R (blkA p p (rdC tv vl r) 4 :: F) s) (ht : HasR (slA κt (.slice (some ⟨tb, toff, none⟩) toks.length tc) 3 toks.length (tkC toks)) R) (hv : TvOk toks tb toff tc tv r) (hbg : r.begun ≤ 32) (w : List UInt8) {K : Value → St → Prop}
    (hK : ∀ tv' s', TvOk toks tb toff tc tv' (r.begS w) → Hp X s0 R (blkA p p (rdC tv' vl (r.begS w)) 4 :: F) s' → K (.bool (r.beg w)) s') :
    Cw Tryz.prog 178 [.pointer (some ⟨p, 0, none⟩), sv w] s K := by
  refine Cw.enterS Tryz.func178 rfl rfl ?_
  refine Sm.seqW ?_
  conv => whnf
  refine Sm.live [0, 1] ?_
  conv => whnf
  refine Sm.seq ?_
  refine Sm.seqW ?_
  conv => whnf
  refine hp.load (v := .bool r.bad) (by repeat (first | exact Has.here | apply Has.there | (apply Has.swap; repeat (first | exact HasR.here | apply HasR.there)))) (by rfl) rfl rfl rfl ?_
  conv => whnf
  cases hb : r.bad with
  | true =>
    repeat (first | (refine Br.yes (by first | with_reducible rfl | with_reducible exact beq_self_eq_true _ | rfl) ?_; conv => whnf) | (refine Br.no (by first | with_reducible rfl | with_reducible exact bne_self_eq_false _ | rfl) ?_; conv => whnf))
    refine Sm.live [0, 21] ?_
    conv => whnf
    refine Sm.ofW ?_
    conv => whnf
    refine Br.yes rfl ?_
    conv => whnf
    have e : r.is 1 w = false := by unfold RS.is; rw [hb]; rfl
    have e2 : r.begS w = r := if_neg (by rw [e]; decide)
    have e3 : r.beg w = false := by unfold RS.beg; rw [e]; rfl
    rw [e3, e2] at hK
    exact ⟨hK _ _ hv hp⟩
  | false =>
    repeat (first | (refine Br.yes (by first | with_reducible rfl | with_reducible exact beq_self_eq_true _ | rfl) ?_; conv => whnf) | (refine Br.no (by first | with_reducible rfl | with_reducible exact bne_self_eq_false _ | rfl) ?_; conv => whnf))
    refine hp.call (next_spec hp.wf (hp.blk (by repeat (first | exact Has.here | apply Has.there | (apply Has.swap; repeat (first | exact HasR.here | apply HasR.there))))) (hp.slR ht) hv) ?_
    clear hp
    rintro _ s rfl hp _
    conv => whnf
    have hx : r.is 1 w = (decide (r.nx.kind = 1) && decide (r.nx.text = w)) := by unfold RS.is; rw [hb]; rfl
    have hx2 : r.begS w = if r.is 1 w = true then (if r.begun = 32 then r.fail else RS.pass { r with begun := r.begun + 1 }) else r := rfl
    have hx3 : r.beg w = (r.is 1 w && decide (r.begun ≠ 32)) := rfl
    by_cases h1 : r.nx.kind = 1
    · have q1 : (r.nx.kind != 1) = false := by simp [h1]
      repeat (first | (refine Br.no q1 ?_; conv => whnf) | (first | (refine Br.yes (by first | with_reducible rfl | with_reducible exact beq_self_eq_true _ | rfl) ?_; conv => whnf) | (refine Br.no (by first | with_reducible rfl | with_reducible exact bne_self_eq_false _ | rfl) ?_; conv => whnf)))
      refine hp.call (next_spec hp.wf (hp.blk (by repeat (first | exact Has.here | apply Has.there | (apply Has.swap; repeat (first | exact HasR.here | apply HasR.there))))) (hp.slR ht) hv) ?_
      clear hp
      rintro _ s rfl hp _
      conv => whnf
      repeat (first | (refine Br.no q1 ?_; conv => whnf) | (first | (refine Br.yes (by first | with_reducible rfl | with_reducible exact beq_self_eq_true _ | rfl) ?_; conv => whnf) | (refine Br.no (by first | with_reducible rfl | with_reducible exact bne_self_eq_false _ | rfl) ?_; conv => whnf)))
      refine Om.of _ (sv_ne r.nx.text w) ?_
      conv => whnf
      by_cases h2 : r.nx.text = w
      · have q2 : (!(r.nx.text == w)) = false := by simp [h2]
        rw [q2]
        repeat (first | (refine Br.no q1 ?_; conv => whnf) | (first | (refine Br.yes (by first | with_reducible rfl | with_reducible exact beq_self_eq_true _ | rfl) ?_; conv => whnf) | (refine Br.no (by first | with_reducible rfl | with_reducible exact bne_self_eq_false _ | rfl) ?_; conv => whnf)))
        refine Sm.live [0, 21] ?_
        conv => whnf
        refine Sm.ofW ?_
        conv => whnf
        refine Br.no rfl ?_
        conv => whnf
        refine Sm.seq ?_
        refine Sm.seqW ?_
        conv => whnf
        rw [h1, h2] at hx
        have hx : r.is 1 w = true := by rw [hx]; simp
        rw [hx, if_pos rfl] at hx2
        rw [hx] at hx3
        refine hp.load (v := .int .i64 (r.begun : Int)) (by repeat (first | exact Has.here | apply Has.there | (apply Has.swap; repeat (first | exact HasR.here | apply HasR.there)))) (by rfl) rfl rfl rfl ?_
        conv => whnf
        refine Sm.live [0, 26] ?_
        conv => whnf
        refine Sm.ofW ?_
        conv => whnf
        by_cases h3 : r.begun = 32
        · refine Br.yes (beq_iff_eq.2 (by omega)) ?_
          conv => whnf
          rw [if_pos h3] at hx2
          have hx3 : r.beg w = false := by rw [hx3, h3]; rfl
          rw [hx3, hx2] at hK
          (refine hp.store (by repeat (first | exact Rm.here | apply Rm.there)) (by first | exact of_decide_eq_true rfl | (simp; done) | (simp; omega) | omega) rfl rfl rfl rfl ?_; intro s hp _; conv => whnf)
          exact ⟨hK _ _ (hv.same rfl) hp⟩
        · refine Br.no (beq_eq_false_iff_ne.2 (by omega)) ?_
          conv => whnf
          refine Sm.seqW ?_
          conv => whnf
          rw [if_neg h3] at hx2
          have hx3 : r.beg w = true := by rw [hx3]; simp [h3]
          rw [hx3, hx2] at hK
          refine hp.load (v := .int .i64 (r.begun : Int)) (by repeat (first | exact Has.here | apply Has.there | (apply Has.swap; repeat (first | exact HasR.here | apply HasR.there)))) (by rfl) rfl rfl rfl ?_
          conv => whnf
          have e1 : IntKind.i64.wrap ((r.begun : Int) + 1) = ((r.begun + 1 : Nat) : Int) := by rw [wi64 (by omega) (by omega)]; push_cast; rfl
          rw [e1]
          (refine hp.store (by repeat (first | exact Rm.here | apply Rm.there)) (by first | exact of_decide_eq_true rfl | (simp; done) | (simp; omega) | omega) rfl rfl rfl rfl ?_; intro s hp _; conv => whnf)
          refine Sm.live [0] ?_
          conv => whnf
          refine Sm.seqW ?_
          conv => whnf
          refine pass_spec (r := { r with begun := r.begun + 1 }) hp ht (hv.same rfl) ?_
          clear hp
          intro tv' s hv' hp
          conv => whnf
          refine Sm.seqW ?_
          conv => whnf
          refine Sm.ofW ?_
          conv => whnf
          exact ⟨hK _ _ hv' hp⟩
      · have q2 : (!(r.nx.text == w)) = true := by simp [h2]
        rw [q2]
        repeat (first | (refine Br.no q1 ?_; conv => whnf) | (first | (refine Br.yes (by first | with_reducible rfl | with_reducible exact beq_self_eq_true _ | rfl) ?_; conv => whnf) | (refine Br.no (by first | with_reducible rfl | with_reducible exact bne_self_eq_false _ | rfl) ?_; conv => whnf)))
        refine Sm.live [0, 21] ?_
        conv => whnf
        refine Sm.ofW ?_
        conv => whnf
        refine Br.yes rfl ?_
        conv => whnf
        have hx : r.is 1 w = false := by rw [hx]; simp [h2]
        rw [hx, if_neg (by decide)] at hx2
        rw [hx] at hx3
        have hx3 : r.beg w = false := hx3
        rw [hx3, hx2] at hK
        exact ⟨hK _ _ hv hp⟩
    · have q1 : (r.nx.kind != 1) = true := by simp [h1]
      repeat (first | (refine Br.yes q1 ?_; conv => whnf) | (first | (refine Br.yes (by first | with_reducible rfl | with_reducible exact beq_self_eq_true _ | rfl) ?_; conv => whnf) | (refine Br.no (by first | with_reducible rfl | with_reducible exact bne_self_eq_false _ | rfl) ?_; conv => whnf)))
      refine Sm.live [0, 21] ?_
      conv => whnf
      refine Sm.ofW ?_
      conv => whnf
      refine Br.yes rfl ?_
      conv => whnf
      have hx : r.is 1 w = false := by rw [hx]; simp [h1]
      rw [hx, if_neg (by decide)] at hx2
      rw [hx] at hx3
      have hx3 : r.beg w = false := hx3
      rw [hx3, hx2] at hK
      exact ⟨hK _ _ hv hp⟩
theorem put_spec {κ : Option Nat} (hp : Hp X s0 R (blkA p p (rdC tv vl r) 4 :: onA κ vl 9 r.l.length (ndC r.l) :: F) s) (hlen : r.l.length ≤ 100) (n : Qn) {K : Value → St → Prop}
    (hK : ∀ vl' κ' s', Hp X s0 R (blkA p p (rdC tv vl' (r.put n)) 4 :: onA κ' vl' 9 (r.put n).l.length (ndC (r.put n).l) :: F) s' → K (.int .i64 r.putI) s') :
    Cw Tryz.prog 179 [.pointer (some ⟨p, 0, none⟩), n.val] s K := by
  refine Cw.enterS Tryz.func179 rfl rfl ?_
  refine Sm.seqW ?_
  conv => whnf
  refine hp.var (cs := n.cells) (e := 9) rfl rfl ?_
  clear hp
  intro p3 s hp _
  conv => whnf
  refine Sm.live [0, 3] ?_
  conv => whnf
  refine Sm.seq ?_
  refine Sm.seqW ?_
  conv => whnf
  refine hp.load (v := .bool r.bad) (by repeat (first | exact Has.here | apply Has.there | (apply Has.swap; repeat (first | exact HasR.here | apply HasR.there)))) (by rfl) rfl rfl rfl ?_
  conv => whnf
  refine Sm.live [0, 3, 8] ?_
  conv => whnf
  refine Sm.ofW ?_
  conv => whnf
  cases hb : r.bad with
  | true =>
    refine Br.yes rfl ?_
    conv => whnf
    have e2 : r.put n = r := if_pos hb
    have e3 : r.putI = 0 := if_pos hb
    rw [e2, e3] at hK
    exact ⟨hK _ _ _ (hp.pik (by repeat (first | exact Pik.nil | exact Pik.refl _ | exact Rm.here | apply Rm.there | apply Pik.cons | apply Pik.skip)))⟩
  | false =>
    refine Br.no rfl ?_
    conv => whnf
    have e2 : r.put n = { r with l := r.l ++ [n] } := if_neg (by rw [hb]; decide)
    have e3 : r.putI = (r.l.length : Int) := if_neg (by rw [hb]; decide)
    rw [e2, e3] at hK
    have hcc : rdC tv vl r = [tv, vl, .int .i64 (r.begun : Int), .bool r.bad] := rfl
    refine Sm.seqC (fun e L' s' => e = .normal ∧ (∃ vl' κ', Hp X s0 R (blkA p p [tv, vl', .int .i64 (r.begun : Int), .bool r.bad] 4 :: onA κ' vl' 9 (r.l ++ [n]).length (ndC (r.l ++ [n])) :: F) s') ∧ Sub [(0, .pointer (some ⟨p, 0, none⟩))] L') ?_ ?_
    · conv => whnf
      refine ⟨[0, 0, 2, 6, 14, 0, 32, 126, 255, 511, 1023], by decide +kernel, by decide +kernel, ?_⟩
      conv => whnf
      refine hp.load (v := vl) (by repeat (first | exact Has.here | apply Has.there | (apply Has.swap; repeat (first | exact HasR.here | apply HasR.there)))) (by rfl) rfl rfl rfl ?_
      conv => whnf
      refine hp.loadA (l := n.cells) (by repeat (first | exact Has.here | apply Has.there | (apply Has.swap; repeat (first | exact HasR.here | apply HasR.there)))) rfl (by rfl) rfl rfl ?_
      conv => whnf
      refine hp.rst.lit (cs := n.cells) (e := 9) (by rfl) ?_
      intro b1 s1 h1 k1
      conv => whnf
      refine hp.dkN h1 k1 ?_
      clear hp h1 k1
      intro s hp
      conv => whnf
      have x7 : Sl (reset s) (some b1) (.slice (some ⟨b1, 0, none⟩) 1 1) 9 1 n.cells := hp.rst.blkSl (k := b1) (b := b1) (n := 1) (by repeat (first | exact Has.here | apply Has.there | (apply Has.swap; repeat (first | exact HasR.here | apply HasR.there)))) rfl
      refine hp.rst.app QN Tryz.underlying41 rfl (κ := κ) (v := vl) (by repeat (first | exact Rm.here | apply Rm.there)) (elems_sl x7) rfl rfl (by omega) ?_
      clear x7
      intro v1 κ1 s1 h1
      conv => whnf
      have e7 : ndC r.l ++ n.cells = ndC (r.l ++ [n]) := by rw [ndC_append]; simp [ndC]
      have e8 : r.l.length + 1 = (r.l ++ [n]).length := by simp
      rw [e7, e8] at h1
      obtain ⟨a1, c1, rfl⟩ := (h1.slF (κ := κ1) (v := v1) (n := (r.l ++ [n]).length) (by repeat (first | exact Rm.here | apply Rm.there))).shape
      refine hp.dkA h1 ?_ ?_
      all_goals
        clear hp h1
        intro s hp
        conv => whnf
        (refine hp.rst.store (by repeat (first | exact Rm.here | apply Rm.there)) (by first | exact of_decide_eq_true rfl | (simp; done) | (simp; omega) | omega) rfl rfl rfl rfl ?_; intro s1 h1 l1; (conv => whnf); refine hp.dkW h1 l1 ?_; clear h1 l1; intro s hp; conv => whnf)
        exact ⟨rfl, ⟨.slice a1 (r.l ++ [n]).length c1, κ1, hp.pik (by repeat (first | exact Pik.nil | exact Pik.refl _ | exact Rm.here | apply Rm.there | apply Pik.cons | apply Pik.skip))⟩, subK_ok ⟨rfl, trivial⟩⟩
    clear hp
    rintro e L' s ⟨rfl, ⟨vl', κ', hp⟩, hs⟩
    refine Sm.weak _ hs ?_
    clear hs
    obtain ⟨a1, c1, rfl⟩ := (hp.slF (κ := κ') (v := vl') (by repeat (first | exact Rm.here | apply Rm.there))).shape
    refine Sm.seqW ?_
    conv => whnf
    refine hp.load (v := .slice a1 (r.l ++ [n]).length c1) (by repeat (first | exact Has.here | apply Has.there | (apply Has.swap; repeat (first | exact HasR.here | apply HasR.there)))) (by rfl) rfl rfl rfl ?_
    conv => whnf
    have e9 : IntKind.i64.wrap (((r.l ++ [n]).length : Int) - 1) = (r.l.length : Int) := by rw [List.length_append, List.length_singleton, wi64 (by omega) (by omega)]; omega
    rw [e9]
    refine Sm.live [4] ?_
    conv => whnf
    refine Sm.ofW ?_
    conv => whnf
    exact ⟨hK _ _ _ hp⟩
theorem inner_spec (hp : Hp X s0 R (blkA p p (rdC tv vl r) 4 :: F) s) (deep : Int) {K : Value → St → Prop}
    (hK : ∀ s', Hp X s0 R (blkA p p (rdC tv vl (if deep = 8 then r.fail else r)) 4 :: F) s' → K (.bool (!(if deep = 8 then r.fail else r).bad)) s') :
    Cw Tryz.prog 198 [.pointer (some ⟨p, 0, none⟩), .int .i64 deep] s K := by
  refine Cw.enterS Tryz.func198 rfl rfl ?_
  refine Sm.seqW ?_
  conv => whnf
  refine Sm.live [0, 1] ?_
  conv => whnf
  by_cases h : deep = 8
  · rw [if_pos h] at hK
    refine Sm.seqC (fun e L' s' => e = .normal ∧ Hp X s0 R (blkA p p (rdC tv vl r.fail) 4 :: F) s' ∧ Sub [(0, .pointer (some ⟨p, 0, none⟩))] L') ?_ ?_
    · conv => whnf
      refine Br.yes (beq_iff_eq.2 h) ?_
      conv => whnf
      (refine hp.store (by repeat (first | exact Rm.here | apply Rm.there)) (by first | exact of_decide_eq_true rfl | (simp; done) | (simp; omega) | omega) rfl rfl rfl rfl ?_; intro s hp _; conv => whnf)
      exact ⟨rfl, hp, subK_ok ⟨rfl, trivial⟩⟩
    clear hp
    rintro e L' s ⟨rfl, hp, hs⟩
    refine Sm.weak _ hs ?_
    clear hs
    refine Sm.seqW ?_
    conv => whnf
    refine hp.load (v := .bool true) (by repeat (first | exact Has.here | apply Has.there | (apply Has.swap; repeat (first | exact HasR.here | apply HasR.there)))) (by rfl) rfl rfl rfl ?_
    conv => whnf
    refine Sm.live [4] ?_
    conv => whnf
    refine Sm.ofW ?_
    conv => whnf
    exact ⟨hK _ hp⟩
  · rw [if_neg h] at hK
    refine Sm.seqC (fun e L' s' => e = .normal ∧ s' = s ∧ Sub [(0, .pointer (some ⟨p, 0, none⟩))] L') ?_ ?_
    · conv => whnf
      refine Br.no (beq_eq_false_iff_ne.2 h) ?_
      conv => whnf
      exact ⟨rfl, rfl, subK_ok ⟨rfl, trivial⟩⟩
    rintro e L' s' ⟨rfl, h1, hs⟩
    obtain rfl := h1.symm
    refine Sm.weak _ hs ?_
    clear hs
    refine Sm.seqW ?_
    conv => whnf
    refine hp.load (v := .bool r.bad) (by repeat (first | exact Has.here | apply Has.there | (apply Has.swap; repeat (first | exact HasR.here | apply HasR.there)))) (by rfl) rfl rfl rfl ?_
    conv => whnf
    refine Sm.live [4] ?_
    conv => whnf
    refine Sm.ofW ?_
    conv => whnf
    exact ⟨hK _ hp⟩
theorem field_spec (wf : WF s) (hb : Blk s p p (rdC tv vl r) 4) (hs : Sl s κt (.slice (some ⟨tb, toff, none⟩) toks.length tc) 3 toks.length (tkC toks)) (hv : TvOk toks tb toff tc tv r) :
    Cw Tryz.prog 104 [.pointer (some ⟨p, 0, none⟩)] s fun v s' => K0 s s' ∧ v = .int .i64 r.field := by
  have hp : Hp (fun _ => False) s [blkA p p (rdC tv vl r) 4, slA κt (.slice (some ⟨tb, toff, none⟩) toks.length tc) 3 toks.length (tkC toks)] [] s := Hp.start _ wf _ (by simp; exact ⟨hb, hs⟩)
  have ht : HasR (slA κt (.slice (some ⟨tb, toff, none⟩) toks.length tc) 3 toks.length (tkC toks)) [blkA p p (rdC tv vl r) 4, slA κt (.slice (some ⟨tb, toff, none⟩) toks.length tc) 3 toks.length (tkC toks)] := .there .here
  refine Cw.enterS Tryz.func104 rfl rfl ?_
  refine Sm.seqW ?_
  conv => whnf
  refine Sm.live [0] ?_
  conv => whnf
  refine Sm.seq ?_
  refine Sm.seqW ?_
  conv => whnf
  refine hp.load (v := .bool r.bad) (by repeat (first | exact Has.here | apply Has.there | (apply Has.swap; repeat (first | exact HasR.here | apply HasR.there)))) (by rfl) rfl rfl rfl ?_
  conv => whnf
  have hf : r.field = if r.bad = true ∨ r.nx.kind ≠ 1 then 0 else fldOf r.nx.text := rfl
  cases hb : r.bad with
  | true =>
    repeat (first | (refine Br.yes (by first | with_reducible rfl | with_reducible exact beq_self_eq_true _ | rfl) ?_; conv => whnf) | (refine Br.no (by first | with_reducible rfl | with_reducible exact bne_self_eq_false _ | rfl) ?_; conv => whnf))
    refine Sm.live [0, 12] ?_
    conv => whnf
    refine Sm.ofW ?_
    conv => whnf
    refine Br.yes rfl ?_
    conv => whnf
    rw [if_pos (.inl hb)] at hf
    rw [hf]
    exact ⟨hp.fr, rfl⟩
  | false =>
    repeat (first | (refine Br.yes (by first | with_reducible rfl | with_reducible exact beq_self_eq_true _ | rfl) ?_; conv => whnf) | (refine Br.no (by first | with_reducible rfl | with_reducible exact bne_self_eq_false _ | rfl) ?_; conv => whnf))
    refine hp.call (next_spec hp.wf (hp.blk (by repeat (first | exact Has.here | apply Has.there | (apply Has.swap; repeat (first | exact HasR.here | apply HasR.there))))) (hp.slR ht) hv) ?_
    clear hp
    rintro _ s rfl hp _
    conv => whnf
    by_cases h1 : r.nx.kind = 1
    · have q1 : (r.nx.kind != 1) = false := by simp [h1]
      repeat (first | (refine Br.no q1 ?_; conv => whnf) | (first | (refine Br.yes (by first | with_reducible rfl | with_reducible exact beq_self_eq_true _ | rfl) ?_; conv => whnf) | (refine Br.no (by first | with_reducible rfl | with_reducible exact bne_self_eq_false _ | rfl) ?_; conv => whnf)))
      refine Sm.live [0, 12] ?_
      conv => whnf
      refine Sm.ofW ?_
      conv => whnf
      refine Br.no q1 ?_
      conv => whnf
      refine Sm.seqW ?_
      conv => whnf
      refine hp.callO (fields_spec hp.wf) ?_
      clear hp
      intro v13 κ13 s hp _
      conv => whnf
      refine hp.call (next_spec hp.wf (hp.blk (by repeat (first | exact Has.here | apply Has.there | (apply Has.swap; repeat (first | exact HasR.here | apply HasR.there))))) (hp.slR ht) hv) ?_
      clear hp
      rintro _ s rfl hp _
      conv => whnf
      have hsl : Sl s κ13 v13 1 fldL.length (fldL.map sv) := hp.slF (κ := κ13) (v := v13) (by repeat (first | exact Rm.here | apply Rm.there))
      refine hp.call (sindex_spec hp.wf hsl (by decide) r.nx.text) ?_
      clear hp
      rintro _ s rfl hp _
      conv => whnf
      have e1 : (if ixS fldL r.nx.text > 0 then ixS fldL r.nx.text else 0) = fldOf r.nx.text := by unfold fldOf; split <;> omega
      refine Sm.live [2] ?_
      conv => whnf
      refine Sm.ofW ?_
      conv => whnf
      rw [if_neg (by rw [hb]; simp [h1])] at hf
      rw [hf]
      exact ⟨hp.fr, congrArg (Value.int .i64) e1⟩
    · have q1 : (r.nx.kind != 1) = true := by simp [h1]
      repeat (first | (refine Br.yes q1 ?_; conv => whnf) | (first | (refine Br.yes (by first | with_reducible rfl | with_reducible exact beq_self_eq_true _ | rfl) ?_; conv => whnf) | (refine Br.no (by first | with_reducible rfl | with_reducible exact bne_self_eq_false _ | rfl) ?_; conv => whnf)))
      refine Sm.live [0, 12] ?_
      conv => whnf
      refine Sm.ofW ?_
      conv => whnf
      refine Br.yes q1 ?_
      conv => whnf
      rw [if_pos (.inr h1)] at hf
      rw [hf]
      exact ⟨hp.fr, rfl⟩
theorem number_spec (hp : Hp X s0 R (blkA p p (rdC tv vl r) 4 :: F) s) (ht : HasR (slA κt (.slice (some ⟨tb, toff, none⟩) toks.length tc) 3 toks.length (tkC toks)) R) (hv : TvOk toks tb toff tc tv r) (hlen : r.nx.text.length ≤ 400) {K : Value → St → Prop}
    (hK : ∀ tv' s', TvOk toks tb toff tc tv' r.numS → Hp X s0 R (blkA p p (rdC tv' vl r.numS) 4 :: F) s' → K r.numV.val s') :
    Cw Tryz.prog 107 [.pointer (some ⟨p, 0, none⟩)] s K := by
  refine Cw.enterS Tryz.func107 rfl rfl ?_
  refine Sm.seqW ?_
  conv => whnf
  refine hp.alloc (cs := Dc.zero.cells) (e := 4) rfl rfl rfl rfl rfl ?_
  clear hp
  intro p2 s hp _
  conv => whnf
  refine Sm.live [0, 2] ?_
  conv => whnf
  refine Sm.seq ?_
  refine Sm.seqW ?_
  conv => whnf
  refine hp.load (v := .bool r.bad) (by repeat (first | exact Has.here | apply Has.there | (apply Has.swap; repeat (first | exact HasR.here | apply HasR.there)))) (by rfl) rfl rfl rfl ?_
  conv => whnf
  have hf : r.numV = if r.bad = true ∨ r.nx.kind ≠ 2 then Dc.zero else dcR r.nx.text := rfl
  have hg : r.numS = if r.bad = true ∨ r.nx.kind ≠ 2 then r.fail else r.pass := rfl
  cases hb : r.bad with
  | true =>
    repeat (first | (refine Br.yes (by first | with_reducible rfl | with_reducible exact beq_self_eq_true _ | rfl) ?_; conv => whnf) | (refine Br.no (by first | with_reducible rfl | with_reducible exact bne_self_eq_false _ | rfl) ?_; conv => whnf))
    refine Sm.live [0, 2, 14] ?_
    conv => whnf
    refine Sm.ofW ?_
    conv => whnf
    refine Br.yes rfl ?_
    conv => whnf
    rw [if_pos (.inl hb)] at hf hg
    rw [hf, hg] at hK
    (refine hp.store (by repeat (first | exact Rm.here | apply Rm.there)) (by first | exact of_decide_eq_true rfl | (simp; done) | (simp; omega) | omega) rfl rfl rfl rfl ?_; intro s hp _; conv => whnf)
    refine hp.storeW (vs := Dc.zero.cells) rfl (by repeat (first | exact Rm.here | apply Rm.there)) (by first | exact C2_same _ _ _ _ | exact C4_same _ _ _ _ _ _ _ _ | exact Dc_same _ _ | rfl) rfl rfl rfl ?_
    clear hp
    intro s hp _
    conv => whnf
    refine hp.loadA (l := Dc.zero.cells) (by repeat (first | exact Has.here | apply Has.there | (apply Has.swap; repeat (first | exact HasR.here | apply HasR.there)))) rfl (by rfl) rfl rfl ?_
    conv => whnf
    exact ⟨hK _ _ (hv.same rfl) (hp.pik (by repeat (first | exact Pik.nil | exact Pik.refl _ | exact Rm.here | apply Rm.there | apply Pik.cons | apply Pik.skip)))⟩
  | false =>
    repeat (first | (refine Br.yes (by first | with_reducible rfl | with_reducible exact beq_self_eq_true _ | rfl) ?_; conv => whnf) | (refine Br.no (by first | with_reducible rfl | with_reducible exact bne_self_eq_false _ | rfl) ?_; conv => whnf))
    refine hp.call (next_spec hp.wf (hp.blk (by repeat (first | exact Has.here | apply Has.there | (apply Has.swap; repeat (first | exact HasR.here | apply HasR.there))))) (hp.slR ht) hv) ?_
    clear hp
    rintro _ s rfl hp _
    conv => whnf
    by_cases h1 : r.nx.kind = 2
    · have q1 : (r.nx.kind != 2) = false := by simp [h1]
      repeat (first | (refine Br.no q1 ?_; conv => whnf) | (first | (refine Br.yes (by first | with_reducible rfl | with_reducible exact beq_self_eq_true _ | rfl) ?_; conv => whnf) | (refine Br.no (by first | with_reducible rfl | with_reducible exact bne_self_eq_false _ | rfl) ?_; conv => whnf)))
      refine Sm.live [0, 2, 14] ?_
      conv => whnf
      refine Sm.ofW ?_
      conv => whnf
      refine Br.no q1 ?_
      conv => whnf
      have hno : ¬ (r.bad = true ∨ r.nx.kind ≠ 2) := by rw [hb]; simp [h1]
      rw [if_neg hno] at hf hg
      rw [hf, hg] at hK
      refine Sm.seqW ?_
      conv => whnf
      refine hp.call (next_spec hp.wf (hp.blk (by repeat (first | exact Has.here | apply Has.there | (apply Has.swap; repeat (first | exact HasR.here | apply HasR.there))))) (hp.slR ht) hv) ?_
      clear hp
      rintro _ s rfl hp _
      conv => whnf
      refine hp.call (read_spec hp.wf r.nx.text (by omega)) ?_
      clear hp
      rintro _ s rfl hp _
      conv => whnf
      rw [readF_dcR]
      conv => whnf
      refine hp.alloc (cs := Dc.zero.cells) (e := 4) rfl rfl rfl rfl rfl ?_
      clear hp
      intro p3 s hp _
      conv => whnf
      refine hp.storeW (vs := (dcR r.nx.text).cells) rfl (by repeat (first | exact Rm.here | apply Rm.there)) (by first | exact C2_same _ _ _ _ | exact C4_same _ _ _ _ _ _ _ _ | exact Dc_same _ _ | rfl) rfl rfl rfl ?_
      clear hp
      intro s hp _
      conv => whnf
      refine Sm.live [0, 2, 3] ?_
      conv => whnf
      refine Sm.seqW ?_
      conv => whnf
      refine pass_spec (F := blkA p3 p3 (dcR r.nx.text).cells 4 :: blkA p2 p2 Dc.zero.cells 4 :: F) (hp.pik (by repeat (first | exact Pik.nil | exact Pik.refl _ | exact Rm.here | apply Rm.there | apply Pik.cons | apply Pik.skip))) ht hv ?_
      clear hp
      intro tv' s hv' hp
      conv => whnf
      refine Sm.live [2, 3] ?_
      conv => whnf
      refine Sm.seqW ?_
      conv => whnf
      refine hp.loadA (l := (dcR r.nx.text).cells) (by repeat (first | exact Has.here | apply Has.there | (apply Has.swap; repeat (first | exact HasR.here | apply HasR.there)))) rfl (by rfl) rfl rfl ?_
      conv => whnf
      refine hp.storeW (vs := (dcR r.nx.text).cells) rfl (by repeat (first | exact Rm.here | apply Rm.there)) (by first | exact C2_same _ _ _ _ | exact C4_same _ _ _ _ _ _ _ _ | exact Dc_same _ _ | rfl) rfl rfl rfl ?_
      clear hp
      intro s hp _
      conv => whnf
      refine Sm.ofW ?_
      conv => whnf
      refine hp.loadA (l := (dcR r.nx.text).cells) (by repeat (first | exact Has.here | apply Has.there | (apply Has.swap; repeat (first | exact HasR.here | apply HasR.there)))) rfl (by rfl) rfl rfl ?_
      conv => whnf
      exact ⟨hK _ _ hv' (hp.pik (by repeat (first | exact Pik.nil | exact Pik.refl _ | exact Rm.here | apply Rm.there | apply Pik.cons | apply Pik.skip)))⟩
    · have q1 : (r.nx.kind != 2) = true := by simp [h1]
      repeat (first | (refine Br.yes q1 ?_; conv => whnf) | (first | (refine Br.yes (by first | with_reducible rfl | with_reducible exact beq_self_eq_true _ | rfl) ?_; conv => whnf) | (refine Br.no (by first | with_reducible rfl | with_reducible exact bne_self_eq_false _ | rfl) ?_; conv => whnf)))
      refine Sm.live [0, 2, 14] ?_
      conv => whnf
      refine Sm.ofW ?_
      conv => whnf
      refine Br.yes q1 ?_
      conv => whnf
      rw [if_pos (.inr h1)] at hf hg
      rw [hf, hg] at hK
      (refine hp.store (by repeat (first | exact Rm.here | apply Rm.there)) (by first | exact of_decide_eq_true rfl | (simp; done) | (simp; omega) | omega) rfl rfl rfl rfl ?_; intro s hp _; conv => whnf)
      refine hp.storeW (vs := Dc.zero.cells) rfl (by repeat (first | exact Rm.here | apply Rm.there)) (by first | exact C2_same _ _ _ _ | exact C4_same _ _ _ _ _ _ _ _ | exact Dc_same _ _ | rfl) rfl rfl rfl ?_
      clear hp
      intro s hp _
      conv => whnf
      refine hp.loadA (l := Dc.zero.cells) (by repeat (first | exact Has.here | apply Has.there | (apply Has.swap; repeat (first | exact HasR.here | apply HasR.there)))) rfl (by rfl) rfl rfl ?_
      conv => whnf
      exact ⟨hK _ _ (hv.same rfl) (hp.pik (by repeat (first | exact Pik.nil | exact Pik.refl _ | exact Rm.here | apply Rm.there | apply Pik.cons | apply Pik.skip)))⟩
end
end Go.Ev
end

/- The reader of queries in memory: test, chain. No condition. -/
noncomputable section
namespace Go.Ev
open Go.Proofs
variable [Lk]
set_option linter.unusedSectionVars false
set_option linter.unusedVariables false
set_option maxRecDepth 100000

theorem fldOf_nat (w : List UInt8) : ∃ f : Nat, fldOf w = (f : Int) ∧ f < 6 := by
  have : ∀ (l : List (List UInt8)), ixS l w < (l.length : Int) := by
    intro l
    induction l with
    | nil => show (-1 : Int) < _; simp
    | cons x l ih =>
      unfold ixS
      simp only [List.length_cons]
      split
      · omega
      · split <;> omega
  have h := this fldL
  have h6 : (fldL.length : Int) = 6 := rfl
  have : fldOf w = max 0 (ixS fldL w) := rfl
  exact ⟨(fldOf w).toNat, by omega, by omega⟩
theorem field_nat (r : RS) : ∃ f : Nat, r.field = (f : Int) ∧ f < 6 := by
  unfold RS.field
  split
  · exact ⟨0, rfl, by decide⟩
  · exact fldOf_nat _
theorem TvOk.nx {toks : List Tok} {tb toff tc : Nat} {tv : Value} {r : RS} (g : TvOk toks tb toff tc tv r) : r.nx ∈ toks := by
  obtain ⟨j, h1, h2, -⟩ := g.ex
  unfold RS.nx
  rw [h2, List.drop_eq_getElem_cons h1]
  exact List.getElem_mem h1
/-- A reader whose nodes were begun. -/
structure RS.in_ (r : RS) : Prop where
  hi : r.begun ≤ 32
  len : r.l.length ≤ r.begun
theorem RS.in_.of {r r' : RS} (h : r.in_) (g : r.le r') : r'.in_ := ⟨g.hi h.hi, by have := g.len; have := h.len; omega⟩
theorem pass_l (r : RS) : r.pass.l = r.l := by unfold RS.pass; split <;> rfl
theorem begS_l (r : RS) (w : List UInt8) : (r.begS w).l = r.l := by
  unfold RS.begS
  split
  · split
    · rfl
    · exact pass_l _
  · rfl
theorem isS_l (r : RS) (k : Int) (w : List UInt8) : (r.isS k w).l = r.l := by
  unfold RS.isS
  split
  · exact pass_l _
  · rfl
theorem numS_l (r : RS) : r.numS.l = r.l := by
  unfold RS.numS
  split
  · rfl
  · exact pass_l _
abbrev RdF (p : Nat) (κ : Option Nat) (tv vl : Value) (r : RS) (F : List At) : List At := blkA p p (rdC tv vl r) 4 :: onA κ vl 9 r.l.length (ndC r.l) :: F
section
variable {X : Nat → Prop} {s0 s : St} {R F : List At} {κt κ : Option Nat} {toks : List Tok} {tb toff tc p : Nat} {tv vl : Value} {r : RS}
theorem test_spec (hp : Hp X s0 R (RdF p κ tv vl r F) s) (ht : HasR (slA κt (.slice (some ⟨tb, toff, none⟩) toks.length tc) 3 toks.length (tkC toks)) R) (hv : TvOk toks tb toff tc tv r) (hin : r.in_) (htx : ∀ x ∈ toks, x.text.length ≤ 400) {K : Value → St → Prop}
    (hK : ∀ tv' vl' κ' s', TvOk toks tb toff tc tv' (testF r).2 → Hp X s0 R (RdF p κ' tv' vl' (testF r).2 F) s' → K (.int .i64 (testF r).1) s') :
    Cw Tryz.prog 199 [.pointer (some ⟨p, 0, none⟩)] s K := by
  refine Cw.enterS Tryz.func199 rfl rfl ?_
  obtain ⟨f, hf, hf6⟩ := field_nat r
  refine Sm.seqW ?_
  conv => whnf
  refine Sm.live [0] ?_
  conv => whnf
  refine Sm.seqW ?_
  conv => whnf
  refine hp.call (field_spec hp.wf (hp.blk (by repeat (first | exact Has.here | apply Has.there | (apply Has.swap; repeat (first | exact HasR.here | apply HasR.there))))) (hp.slR ht) hv) ?_
  clear hp
  rintro _ s rfl hp _
  conv => whnf
  refine hp.alloc (cs := Qn.zero.cells) (e := 9) rfl rfl rfl rfl rfl ?_
  clear hp
  intro p3 s hp _
  conv => whnf
  refine hp.storeW (vs := (Qn.mk 4 r.field [] ⟨false, 0, 0⟩ 0 0).cells) (C := Qn.zero.cells) (by simp [putAt, Qn.cells, Value.cells, sv]) (by repeat (first | exact Rm.here | apply Rm.there)) (by rfl) rfl rfl rfl ?_
  clear hp
  intro s hp _
  conv => whnf
  refine Sm.live [0, 3] ?_
  conv => whnf
  refine Sm.seq ?_
  by_cases hf0 : r.field = 0
  · have q : (r.field == 0) = true := beq_iff_eq.2 hf0
    refine Sm.seqW ?_
    conv => whnf
    refine ⟨[0, 1, 3, 7, 15, 15, 15, 79, 239, 495, 1023, 2047, 4095], by decide +kernel, by decide +kernel, ?_⟩
    conv => whnf
    refine hp.load (v := .int .i64 r.field) (by repeat (first | exact Has.here | apply Has.there | (apply Has.swap; repeat (first | exact HasR.here | apply HasR.there)))) (by rfl) rfl rfl rfl ?_
    conv => whnf
    repeat (first | (refine Br.yes q ?_; conv => whnf) | (first | (refine Br.yes (by first | with_reducible rfl | with_reducible exact beq_self_eq_true _ | rfl) ?_; conv => whnf) | (refine Br.no (by first | with_reducible rfl | with_reducible exact bne_self_eq_false _ | rfl) ?_; conv => whnf)))
    refine Sm.live [0, 3, 19] ?_
    conv => whnf
    refine Sm.ofW ?_
    conv => whnf
    refine Br.yes rfl ?_
    conv => whnf
    refine fail_spec (F := onA κ vl 9 r.l.length (ndC r.l) :: F) (hp.pik (by repeat (first | exact Pik.nil | exact Pik.refl _ | exact Rm.here | apply Rm.there | apply Pik.cons | apply Pik.skip))) ?_
    clear hp
    intro s hp
    conv => whnf
    have e : testF r = (0, r.fail) := if_pos hf0
    rw [e] at hK
    exact ⟨hK _ _ _ _ (hv.same rfl) hp⟩
  · have q : (r.field == 0) = false := beq_eq_false_iff_ne.2 hf0
    have hwf : fldL.getD r.field.toNat [] = fldL.getD f [] := by rw [hf]; rfl
    refine Sm.seqC (fun e L' s' => e = .normal ∧ (∃ tv', TvOk toks tb toff tc tv' (r.begS (fldL.getD f [])) ∧ Hp X s0 R (blkA p3 p3 (Qn.mk 4 r.field [] ⟨false, 0, 0⟩ 0 0).cells 9 :: RdF p κ tv' vl (r.begS (fldL.getD f [])) F) s') ∧ Sub [(0, .pointer (some ⟨p, 0, none⟩)), (3, .pointer (some ⟨p3, 0, none⟩)), (19, .bool (!(r.beg (fldL.getD f []))))] L') ?_ ?_
    · conv => whnf
      refine ⟨[0, 1, 3, 7, 15, 15, 15, 79, 239, 495, 1023, 2047, 4095], by decide +kernel, by decide +kernel, ?_⟩
      conv => whnf
      refine hp.load (v := .int .i64 r.field) (by repeat (first | exact Has.here | apply Has.there | (apply Has.swap; repeat (first | exact HasR.here | apply HasR.there)))) (by rfl) rfl rfl rfl ?_
      conv => whnf
      repeat (first | (refine Br.no q ?_; conv => whnf) | (first | (refine Br.yes (by first | with_reducible rfl | with_reducible exact beq_self_eq_true _ | rfl) ?_; conv => whnf) | (refine Br.no (by first | with_reducible rfl | with_reducible exact bne_self_eq_false _ | rfl) ?_; conv => whnf)))
      refine hp.rst.callO (fields_spec hp.rst.wf) ?_
      intro v12 κ12 s1 h1 k1
      conv => whnf
      refine hp.dkN h1 k1 ?_
      clear hp h1 k1
      intro s hp
      conv => whnf
      repeat (first | (refine Br.no q ?_; conv => whnf) | (first | (refine Br.yes (by first | with_reducible rfl | with_reducible exact beq_self_eq_true _ | rfl) ?_; conv => whnf) | (refine Br.no (by first | with_reducible rfl | with_reducible exact bne_self_eq_false _ | rfl) ?_; conv => whnf)))
      refine hp.load (v := .int .i64 r.field) (by repeat (first | exact Has.here | apply Has.there | (apply Has.swap; repeat (first | exact HasR.here | apply HasR.there)))) (by rfl) rfl rfl rfl ?_
      conv => whnf
      repeat (first | (refine Br.no q ?_; conv => whnf) | (first | (refine Br.yes (by first | with_reducible rfl | with_reducible exact beq_self_eq_true _ | rfl) ?_; conv => whnf) | (refine Br.no (by first | with_reducible rfl | with_reducible exact bne_self_eq_false _ | rfl) ?_; conv => whnf)))
      obtain ⟨pp, z1, i1, h1, g1, ap, rfl⟩ := index_sl FS Tryz.underlying9 rfl (hp.slF (κ := κ12) (v := v12) (by repeat (first | exact Rm.here | apply Rm.there))) .i64 (i := f) hf6
      have hz : z1 = sv (fldL.getD f []) := by
        have : f = 0 ∨ f = 1 ∨ f = 2 ∨ f = 3 ∨ f = 4 ∨ f = 5 := by omega
        rcases this with rfl | rfl | rfl | rfl | rfl | rfl <;> exact (Option.some.inj h1).symm
      subst hz
      rw [← hf] at i1
      refine Om.of _ (i1) ?_
      conv => whnf
      repeat (first | (refine Br.no q ?_; conv => whnf) | (first | (refine Br.yes (by first | with_reducible rfl | with_reducible exact beq_self_eq_true _ | rfl) ?_; conv => whnf) | (refine Br.no (by first | with_reducible rfl | with_reducible exact bne_self_eq_false _ | rfl) ?_; conv => whnf)))
      refine Om.of _ (g1) ?_
      conv => whnf
      repeat (first | (refine Br.no q ?_; conv => whnf) | (first | (refine Br.yes (by first | with_reducible rfl | with_reducible exact beq_self_eq_true _ | rfl) ?_; conv => whnf) | (refine Br.no (by first | with_reducible rfl | with_reducible exact bne_self_eq_false _ | rfl) ?_; conv => whnf)))
      refine begin_spec (F := onA κ vl 9 r.l.length (ndC r.l) :: blkA p3 p3 (Qn.mk 4 r.field [] ⟨false, 0, 0⟩ 0 0).cells 9 :: F) (hp.rst.pik (by repeat (first | exact Pik.nil | exact Pik.refl _ | exact Rm.here | apply Rm.there | apply Pik.cons | apply Pik.skip))) ht hv hin.hi (fldL.getD f []) ?_
      intro tv' s1 hv' h1
      conv => whnf
      refine hp.dkA h1 ?_ ?_
      all_goals
        clear hp h1
        intro s hp
        conv => whnf
        repeat (first | (refine Br.no q ?_; conv => whnf) | (first | (refine Br.yes (by first | with_reducible rfl | with_reducible exact beq_self_eq_true _ | rfl) ?_; conv => whnf) | (refine Br.no (by first | with_reducible rfl | with_reducible exact bne_self_eq_false _ | rfl) ?_; conv => whnf)))
        exact ⟨rfl, ⟨tv', hv', by unfold RdF; rw [begS_l]; exact hp.pik (by repeat (first | exact Pik.nil | exact Pik.refl _ | exact Rm.here | apply Rm.there | apply Pik.cons | apply Pik.skip))⟩, subK_ok ⟨rfl, rfl, rfl, trivial⟩⟩
    clear hp
    rintro e L' s ⟨rfl, ⟨tv1, hv1, hp⟩, hs⟩
    refine Sm.weak _ hs ?_
    clear hs
    have ht1 : testF r = if r.beg (fldL.getD f []) = false then (0, (r.begS (fldL.getD f [])).fail)
      else if (r.begS (fldL.getD f [])).nx.kind ≠ 3 ∨ cmpS (r.begS (fldL.getD f [])).nx.text = false then (0, (r.begS (fldL.getD f [])).fail)
      else ((((r.begS (fldL.getD f [])).pass).numS).putI, (((r.begS (fldL.getD f [])).pass).numS).put ⟨4, r.field, (r.begS (fldL.getD f [])).nx.text, ((r.begS (fldL.getD f [])).pass).numV, 0, 0⟩) := by
      unfold testF
      rw [if_neg hf0, hwf]
    have hle := RS.le.begS r (fldL.getD f [])
    generalize hr1 : r.begS (fldL.getD f []) = r1 at *
    refine Sm.ofW ?_
    conv => whnf
    cases hbg : r.beg (fldL.getD f []) with
    | false =>
      rw [if_pos hbg] at ht1
      refine Br.yes rfl ?_
      conv => whnf
      refine fail_spec (F := onA κ vl 9 r1.l.length (ndC r1.l) :: F) (hp.pik (by repeat (first | exact Pik.nil | exact Pik.refl _ | exact Rm.here | apply Rm.there | apply Pik.cons | apply Pik.skip))) ?_
      clear hp
      intro s hp
      conv => whnf
      rw [ht1] at hK
      exact ⟨hK _ _ _ _ (hv1.same rfl) hp⟩
    | true =>
      rw [if_neg (by rw [hbg]; decide)] at ht1
      refine Br.no rfl ?_
      conv => whnf
      refine Sm.seqW ?_
      conv => whnf
      refine hp.call (next_spec hp.wf (hp.blk (by repeat (first | exact Has.here | apply Has.there | (apply Has.swap; repeat (first | exact HasR.here | apply HasR.there))))) (hp.slR ht) hv1) ?_
      clear hp
      rintro _ s rfl hp _
      conv => whnf
      refine hp.store (v := sv r1.nx.text) (off := 2) (by repeat (first | exact Rm.here | apply Rm.there)) (by show 2 < 9; decide) rfl rfl rfl rfl ?_
      clear hp
      intro s hp _
      replace hp : Hp X s0 R (blkA p3 p3 (Qn.mk 4 r.field r1.nx.text ⟨false, 0, 0⟩ 0 0).cells 9 :: RdF p κ tv1 vl r1 F) s := hp
      conv => whnf
      refine Sm.live [0, 3] ?_
      conv => whnf
      refine Sm.seq ?_
      refine Sm.seqW ?_
      conv => whnf
      refine hp.call (next_spec hp.wf (hp.blk (by repeat (first | exact Has.here | apply Has.there | (apply Has.swap; repeat (first | exact HasR.here | apply HasR.there))))) (hp.slR ht) hv1) ?_
      clear hp
      rintro _ s rfl hp _
      conv => whnf
      by_cases hk : r1.nx.kind = 3
      · have q1 : (r1.nx.kind != 3) = false := by simp [hk]
        repeat (first | (refine Br.no q1 ?_; conv => whnf) | (first | (refine Br.yes (by first | with_reducible rfl | with_reducible exact beq_self_eq_true _ | rfl) ?_; conv => whnf) | (refine Br.no (by first | with_reducible rfl | with_reducible exact bne_self_eq_false _ | rfl) ?_; conv => whnf)))
        refine hp.load (v := sv r1.nx.text) (by repeat (first | exact Has.here | apply Has.there | (apply Has.swap; repeat (first | exact HasR.here | apply HasR.there)))) (by rfl) rfl rfl rfl ?_
        conv => whnf
        repeat (first | (refine Br.no q1 ?_; conv => whnf) | (first | (refine Br.yes (by first | with_reducible rfl | with_reducible exact beq_self_eq_true _ | rfl) ?_; conv => whnf) | (refine Br.no (by first | with_reducible rfl | with_reducible exact bne_self_eq_false _ | rfl) ?_; conv => whnf)))
        refine (compares_spec _ r1.nx.text).mono ?_
        rintro _ s1 ⟨h1, rfl⟩
        obtain rfl := h1.symm
        conv => whnf
        cases hc : cmpS r1.nx.text with
        | false =>
          rw [if_pos (.inr hc)] at ht1
          repeat (first | (refine Br.no q1 ?_; conv => whnf) | (first | (refine Br.yes (by first | with_reducible rfl | with_reducible exact beq_self_eq_true _ | rfl) ?_; conv => whnf) | (refine Br.no (by first | with_reducible rfl | with_reducible exact bne_self_eq_false _ | rfl) ?_; conv => whnf)))
          refine Sm.live [0, 3, 35] ?_
          conv => whnf
          refine Sm.ofW ?_
          conv => whnf
          refine Br.yes rfl ?_
          conv => whnf
          refine fail_spec (F := onA κ vl 9 r1.l.length (ndC r1.l) :: F) (hp.pik (by repeat (first | exact Pik.nil | exact Pik.refl _ | exact Rm.here | apply Rm.there | apply Pik.cons | apply Pik.skip))) ?_
          clear hp
          intro s hp
          conv => whnf
          rw [ht1] at hK
          exact ⟨hK _ _ _ _ (hv1.same rfl) hp⟩
        | true =>
          rw [if_neg (by rw [hc]; simp [hk])] at ht1
          repeat (first | (refine Br.no q1 ?_; conv => whnf) | (first | (refine Br.yes (by first | with_reducible rfl | with_reducible exact beq_self_eq_true _ | rfl) ?_; conv => whnf) | (refine Br.no (by first | with_reducible rfl | with_reducible exact bne_self_eq_false _ | rfl) ?_; conv => whnf)))
          refine Sm.live [0, 3, 35] ?_
          conv => whnf
          refine Sm.ofW ?_
          conv => whnf
          refine Br.no rfl ?_
          conv => whnf
          refine Sm.seqW ?_
          conv => whnf
          refine pass_spec (F := blkA p3 p3 (Qn.mk 4 r.field r1.nx.text ⟨false, 0, 0⟩ 0 0).cells 9 :: onA κ vl 9 r1.l.length (ndC r1.l) :: F) (hp.pik (by repeat (first | exact Pik.nil | exact Pik.refl _ | exact Rm.here | apply Rm.there | apply Pik.cons | apply Pik.skip))) ht hv1 ?_
          clear hp
          intro tv2 s hv2 hp
          conv => whnf
          refine Sm.live [0, 3] ?_
          conv => whnf
          refine Sm.seqW ?_
          conv => whnf
          refine number_spec hp ht hv2 (htx _ hv2.nx) ?_
          clear hp
          intro tv3 s hv3 hp
          conv => whnf
          refine hp.storeA (off := 3) (vs := r1.pass.numV.cells) rfl (by repeat (first | exact Rm.here | apply Rm.there)) (Nat.le_of_ble_eq_true rfl) rfl rfl rfl ?_
          clear hp
          intro s hp _
          replace hp : Hp X s0 R (blkA p3 p3 (Qn.mk 4 r.field r1.nx.text r1.pass.numV 0 0).cells 9 :: blkA p p (rdC tv3 vl r1.pass.numS) 4 :: onA κ vl 9 r1.l.length (ndC r1.l) :: F) s := hp
          conv => whnf
          refine Sm.live [0, 3] ?_
          conv => whnf
          refine Sm.seqW ?_
          conv => whnf
          have hl3 : r1.pass.numS.l = r1.l := by rw [numS_l, pass_l]
          have hin3 : (r1.pass.numS).in_ := hin.of (hle.trans ((RS.le.pass r1).trans (.numS _)))
          have hlen3 := hin3.len
          have hhi3 := hin3.hi
          rw [← hl3] at hp
          generalize r1.pass.numV = d at *
          refine hp.loadA (l := (Qn.mk 4 r.field r1.nx.text d 0 0).cells) (by repeat (first | exact Has.here | apply Has.there | (apply Has.swap; repeat (first | exact HasR.here | apply HasR.there)))) rfl (by rfl) rfl rfl ?_
          conv => whnf
          refine put_spec (r := r1.pass.numS) (F := F) (hp.pik (by repeat (first | exact Pik.nil | exact Pik.refl _ | exact Rm.here | apply Rm.there | apply Pik.cons | apply Pik.skip))) (by omega) ⟨4, r.field, r1.nx.text, d, 0, 0⟩ ?_
          clear hp
          intro vl' κ' s hp
          conv => whnf
          refine Sm.live [2] ?_
          conv => whnf
          refine Sm.ofW ?_
          conv => whnf
          rw [ht1] at hK
          exact ⟨hK _ _ _ _ (hv3.same (by unfold RS.put; split <;> rfl)) hp⟩
      · have q1 : (r1.nx.kind != 3) = true := by simp [hk]
        rw [if_pos (.inl hk)] at ht1
        repeat (first | (refine Br.yes q1 ?_; conv => whnf) | (first | (refine Br.yes (by first | with_reducible rfl | with_reducible exact beq_self_eq_true _ | rfl) ?_; conv => whnf) | (refine Br.no (by first | with_reducible rfl | with_reducible exact bne_self_eq_false _ | rfl) ?_; conv => whnf)))
        refine Sm.live [0, 3, 35] ?_
        conv => whnf
        refine Sm.ofW ?_
        conv => whnf
        refine Br.yes rfl ?_
        conv => whnf
        refine fail_spec (F := onA κ vl 9 r1.l.length (ndC r1.l) :: F) (hp.pik (by repeat (first | exact Pik.nil | exact Pik.refl _ | exact Rm.here | apply Rm.there | apply Pik.cons | apply Pik.skip))) ?_
        clear hp
        intro s hp
        conv => whnf
        rw [ht1] at hK
        exact ⟨hK _ _ _ _ (hv1.same rfl) hp⟩
end
end Go.Ev
end

/- The reader of queries in memory: chains, factors, conditions. No condition. -/
noncomputable section
namespace Go.Ev
open Go.Proofs
variable [Lk]
set_option linter.unusedSectionVars false
set_option linter.unusedVariables false
set_option maxRecDepth 100000

/-- A function that reads a part. -/
def PartOk (X : Nat → Prop) (s0 : St) (R F : List At) (toks : List Tok) (tb toff tc p : Nat) (g : Nat) (us vs : Array Value) (deep : Int) (part : RS → Int × RS) : Prop :=
  ∀ (tv vl : Value) (κ : Option Nat) (s : St) (r : RS), r.in_ → TvOk toks tb toff tc tv r → Hp X s0 R (RdF p κ tv vl r F) s → ∀ K : Value → St → Prop,
    (∀ tv' vl' κ' s', TvOk toks tb toff tc tv' (part r).2 → Hp X s0 R (RdF p κ' tv' vl' (part r).2 F) s' → K (.int .i64 (part r).1) s') → Cw Tryz.prog g (us.toList ++ [.int .i64 deep] ++ vs.toList) s K
theorem put_t (r : RS) (n : Qn) : (r.put n).t = r.t := by unfold RS.put; split <;> rfl
section
variable {X : Nat → Prop} {s0 s : St} {R F : List At} {κt κ : Option Nat} {toks : List Tok} {tb toff tc p : Nat} {tv vl : Value} {r : RS}
theorem nd_build (k a b : Int) : putAt (putAt (putAt Qn.zero.cells 0 [.int .i64 k]) 7 [.int .i64 a]) 8 [.int .i64 b] = (Qn.mk k 0 [] Dc.zero a b).cells := by simp [putAt, Qn.cells, Qn.zero, Dc.zero]
theorem nd_build7 (k a : Int) : putAt (putAt Qn.zero.cells 0 [.int .i64 k]) 7 [.int .i64 a] = (Qn.mk k 0 [] Dc.zero a 0).cells := by simp [putAt, Qn.cells, Qn.zero, Dc.zero]
theorem put_specV (hp : Hp X s0 R (blkA p p (rdC tv vl r) 4 :: onA κ vl 9 r.l.length (ndC r.l) :: F) s) (hlen : r.l.length ≤ 100) (n : Qn) {v : Value} (hn : v = n.val) {K : Value → St → Prop}
    (hK : ∀ vl' κ' s', Hp X s0 R (blkA p p (rdC tv vl' (r.put n)) 4 :: onA κ' vl' 9 (r.put n).l.length (ndC (r.put n).l) :: F) s' → K (.int .i64 r.putI) s') :
    Cw Tryz.prog 179 [.pointer (some ⟨p, 0, none⟩), v] s K := by
  subst hn; exact put_spec hp hlen n hK
theorem chain_spec {g : Nat} {us vs : Array Value} {deep : Int} {part : RS → Int × RS} (hpart : PartOk X s0 R F toks tb toff tc p g us vs deep part) (hle : ∀ r : RS, r.le (part r).2) (w : List UInt8) (k : Int)
    (hp : Hp X s0 R (RdF p κ tv vl r F) s) (ht : HasR (slA κt (.slice (some ⟨tb, toff, none⟩) toks.length tc) 3 toks.length (tkC toks)) R) (hv : TvOk toks tb toff tc tv r) (hin : r.in_) {K : Value → St → Prop}
    (hK : ∀ tv' vl' κ' s', TvOk toks tb toff tc tv' (chainF w k part r).2 → Hp X s0 R (RdF p κ' tv' vl' (chainF w k part r).2 F) s' → K (.int .i64 (chainF w k part r).1) s') :
    Cw Tryz.prog 147 [.pointer (some ⟨p, 0, none⟩), sv w, .int .i64 k, .func (.func g) us vs, .int .i64 deep] s K := by
  refine Cw.enterS Tryz.func147 rfl rfl ?_
  refine Sm.seqW ?_
  conv => whnf
  refine Sm.live [0, 1, 2, 3, 4] ?_
  conv => whnf
  refine Sm.seqW ?_
  conv => whnf
  refine hpart _ _ _ _ _ hin hv hp _ ?_
  clear hp hv
  intro tv1 vl1 κ1 s hv hp
  conv => whnf
  refine Sm.live [0, 1, 2, 3, 4, 11] ?_
  conv => whnf
  refine Sm.seq ?_
  refine Sm.block ?_
  refine Sm.loop ?_
  refine Lp.ofS (α := Nat × Int × RS × Value × Value × Option Nat) (fun x => [(0, .pointer (some ⟨p, 0, none⟩)), (1, sv w), (2, .int .i64 k), (3, .func (.func g) us vs), (4, .int .i64 deep), (11, .int .i64 x.2.1)])
    (fun x s' => chainL w k part x.1 x.2.1 x.2.2.1 = chainF w k part r ∧ 33 ≤ x.1 + x.2.2.1.begun ∧ x.2.2.1.in_ ∧ TvOk toks tb toff tc x.2.2.2.1 x.2.2.1 ∧ Hp X s0 R (RdF p x.2.2.2.2.2 x.2.2.2.1 x.2.2.2.2.1 x.2.2.1 F) s')
    (fun x => x.1) ?_ (33, (part r).1, (part r).2, tv1, vl1, κ1) (subK_ok (by refine ⟨rfl, rfl, rfl, rfl, rfl, rfl, trivial⟩)) ⟨rfl, by omega, hin.of (hle r), hv, hp⟩
  clear hp hv
  rintro ⟨n, a, q, tv, vl, κ⟩ s ⟨hx, hn, hq, hv, hp⟩
  simp only at hx hn hq hv hp
  have hqi := hq.hi
  obtain ⟨n, rfl⟩ : ∃ m, n = m + 1 := ⟨n - 1, by omega⟩
  have hx1 : chainL w k part (n + 1) a q = if q.beg w = true then chainL w k part n (part (q.begS w)).2.putI ((part (q.begS w)).2.put ⟨k, 0, [], Dc.zero, a, (part (q.begS w)).1⟩) else (a, q.begS w) := rfl
  refine Sm.seq ?_
  refine Sm.seqW ?_
  conv => whnf
  refine begin_spec (F := onA κ vl 9 q.l.length (ndC q.l) :: F) hp ht hv hqi w ?_
  clear hp hv
  intro tv s hv hp
  have hp : Hp X s0 R (RdF p κ tv vl (q.begS w) F) s := by unfold RdF; rw [begS_l]; exact hp
  have hqb := hq.of (RS.le.begS q w)
  conv => whnf
  refine Sm.live [0, 1, 2, 3, 4, 11, 17] ?_
  conv => whnf
  refine Sm.ofW ?_
  conv => whnf
  cases hb : q.beg w with
  | true =>
    rw [if_pos hb, hx] at hx1
    refine Br.yes rfl ?_
    conv => whnf
    refine Sm.block ?_
    refine Sm.ofW ?_
    conv => whnf
    refine hpart _ _ _ _ _ hqb hv hp _ ?_
    clear hp hv
    intro tv vl κ s hv hp
    conv => whnf
    have hb1 := (RS.beg_le hb).1
    have hlo := (hle (q.begS w)).lo
    have hqn := hq.of (RS.le.put hb (hle (q.begS w)) ⟨k, 0, [], Dc.zero, a, (part (q.begS w)).1⟩)
    have hq2 := hqb.of (hle (q.begS w))
    have hh := hq2.hi
    have hl := hq2.len
    generalize part (q.begS w) = y at *
    refine put_specV (r := y.2) (F := F) hp (by omega) ⟨k, 0, [], Dc.zero, a, y.1⟩ (congrArg (fun l => Value.agg (List.toArray l)) (nd_build k a y.1)) ?_
    clear hp
    intro vl κ s hp
    conv => whnf
    have hpb : (y.2.put ⟨k, 0, [], Dc.zero, a, y.1⟩).begun = y.2.begun := by unfold RS.put; split <;> rfl
    exact ⟨(n, y.2.putI, y.2.put ⟨k, 0, [], Dc.zero, a, y.1⟩, tv, vl, κ), by (show n < n + 1); omega, subK_ok (by refine ⟨rfl, rfl, rfl, rfl, rfl, rfl, trivial⟩), hx1.symm, by simp only [hpb]; omega, hqn, hv.same (put_t _ _), hp⟩
  | false =>
    rw [if_neg (by rw [hb]; decide), hx] at hx1
    refine Br.no rfl ?_
    conv => whnf
    refine Sm.seqW ?_
    conv => whnf
    refine Sm.live [10] ?_
    conv => whnf
    refine Sm.ofW ?_
    conv => whnf
    rw [hx1] at hK
    exact ⟨hK _ _ _ _ hv hp⟩
theorem term_spec {n : Nat} {deep : Int} (hpart : PartOk X s0 R F toks tb toff tc p 180 #[.pointer (some ⟨p, 0, none⟩)] #[] deep (factorF n)) (ht : HasR (slA κt (.slice (some ⟨tb, toff, none⟩) toks.length tc) 3 toks.length (tkC toks)) R) :
    PartOk X s0 R F toks tb toff tc p 148 #[.pointer (some ⟨p, 0, none⟩)] #[] deep (chainF andT 1 (factorF n)) := by
  intro tv vl κ s r hin hv hp K hK
  refine Cw.enterS Tryz.func148 rfl rfl ?_
  refine Sm.seqW ?_
  conv => whnf
  refine Sm.live [0, 1] ?_
  conv => whnf
  refine Sm.seqW ?_
  conv => whnf
  refine chain_spec hpart (factorF_le n) andT 1 hp ht hv hin ?_
  clear hp hv
  intro tv vl κ s hv hp
  conv => whnf
  refine Sm.live [4] ?_
  conv => whnf
  refine Sm.ofW ?_
  conv => whnf
  exact ⟨hK _ _ _ _ hv hp⟩
theorem cond_spec {n : Nat} {deep : Int} (hpart : PartOk X s0 R F toks tb toff tc p 180 #[.pointer (some ⟨p, 0, none⟩)] #[] deep (factorF n)) (ht : HasR (slA κt (.slice (some ⟨tb, toff, none⟩) toks.length tc) 3 toks.length (tkC toks)) R) :
    PartOk X s0 R F toks tb toff tc p 103 #[.pointer (some ⟨p, 0, none⟩)] #[] deep (condF n) := by
  intro tv vl κ s r hin hv hp K hK
  refine Cw.enterS Tryz.func103 rfl rfl ?_
  refine Sm.seqW ?_
  conv => whnf
  refine Sm.live [0, 1] ?_
  conv => whnf
  refine Sm.seqW ?_
  conv => whnf
  refine chain_spec (term_spec hpart ht) (chainF_le (factorF_le n)) orT 2 hp ht hv hin ?_
  clear hp hv
  intro tv vl κ s hv hp
  conv => whnf
  refine Sm.live [4] ?_
  conv => whnf
  refine Sm.ofW ?_
  conv => whnf
  exact ⟨hK _ _ _ _ hv hp⟩
end
end Go.Ev
end

/- The reader of queries in memory: factors. No condition. -/
noncomputable section
namespace Go.Ev
open Go.Proofs
variable [Lk]
set_option linter.unusedSectionVars false
set_option linter.unusedVariables false
set_option maxRecDepth 100000

theorem factorF_bad (n : Nat) {r : RS} (h : r.bad = true) : factorF n r = (0, r) := by cases n <;> exact if_pos h
theorem factorF_0 {r : RS} (h : r.bad = false) (g : (r.opens || r.nots) = true) : factorF 0 r = (0, r.fail) := by
  show (if r.bad = true then (0, r) else if (r.opens || r.nots) = true then (0, r.fail) else testF r) = _
  rw [if_neg (by rw [h]; decide), if_pos g]
theorem factorF_open (n : Nat) {r : RS} (h : r.bad = false) (g : r.opens = true) : factorF (n + 1) r = if (condF n r.pass).2.is 3 [41] = true then ((condF n r.pass).1, (condF n r.pass).2.isS 3 [41]) else (0, ((condF n r.pass).2.isS 3 [41]).fail) := by
  conv => lhs; unfold factorF
  rw [if_neg (by rw [h]; decide), if_pos g]; rfl
theorem factorF_not (n : Nat) {r : RS} (h : r.bad = false) (g : r.opens = false) (g2 : r.nots = true) : factorF (n + 1) r = if r.beg notT = true then ((factorF n (r.begS notT)).2.putI, (factorF n (r.begS notT)).2.put ⟨3, 0, [], Dc.zero, (factorF n (r.begS notT)).1, 0⟩) else (0, (r.begS notT).fail) := by
  conv => lhs; unfold factorF
  rw [if_neg (by rw [h]; decide), if_neg (by rw [g]; decide), if_pos g2]
theorem factorF_test (n : Nat) {r : RS} (h : r.bad = false) (g : r.opens = false) (g2 : r.nots = false) : factorF n r = testF r := by
  cases n with
  | zero =>
    show (if r.bad = true then (0, r) else if (r.opens || r.nots) = true then (0, r.fail) else testF r) = _
    rw [if_neg (by rw [h]; decide), if_neg (by rw [g, g2]; decide)]
  | succ n =>
    conv => lhs; unfold factorF
    rw [if_neg (by rw [h]; decide), if_neg (by rw [g]; decide), if_neg (by rw [g2]; decide)]
section
variable {X : Nat → Prop} {s0 s : St} {R F : List At} {κt κ : Option Nat} {toks : List Tok} {tb toff tc p : Nat} {tv vl : Value} {r : RS}
theorem factor_step (ht : HasR (slA κt (.slice (some ⟨tb, toff, none⟩) toks.length tc) 3 toks.length (tkC toks)) R) (htx : ∀ x ∈ toks, x.text.length ≤ 400) (n : Nat) (hn : n ≤ 8)
    (ih : ∀ m, n = m + 1 → PartOk X s0 R F toks tb toff tc p 180 #[.pointer (some ⟨p, 0, none⟩)] #[] (8 - (m : Int)) (factorF m)) :
    PartOk X s0 R F toks tb toff tc p 180 #[.pointer (some ⟨p, 0, none⟩)] #[] (8 - (n : Int)) (factorF n) := by
  intro tv vl κ s r hin hv hp K hK
  refine Cw.enterS Tryz.func180 rfl rfl ?_
  refine Sm.seqW ?_
  conv => whnf
  refine Sm.live [0, 1] ?_
  conv => whnf
  refine Sm.seq ?_
  refine Sm.seqW ?_
  conv => whnf
  refine hp.load (v := .bool r.bad) (by repeat (first | exact Has.here | apply Has.there | (apply Has.swap; repeat (first | exact HasR.here | apply HasR.there)))) (by rfl) rfl rfl rfl ?_
  conv => whnf
  refine Sm.live [0, 1, 12] ?_
  conv => whnf
  refine Sm.ofW ?_
  conv => whnf
  cases hb : r.bad with
  | true =>
    refine Br.yes rfl ?_
    conv => whnf
    rw [factorF_bad n hb] at hK
    exact ⟨hK _ _ _ _ hv hp⟩
  | false =>
  refine Br.no rfl ?_
  conv => whnf
  refine Sm.seqW ?_
  conv => whnf
  refine hp.call (next_spec hp.wf (hp.blk (by repeat (first | exact Has.here | apply Has.there | (apply Has.swap; repeat (first | exact HasR.here | apply HasR.there))))) (hp.slR ht) hv) ?_
  clear hp
  rintro _ s rfl hp _
  conv => whnf
  refine hp.alloc (cs := (Tok.mk 0 [] 0).cells) (e := 3) rfl rfl rfl rfl rfl ?_
  clear hp
  intro p5 s hp _
  conv => whnf
  refine hp.storeW (vs := r.nx.cells) (C := (Tok.mk 0 [] 0).cells) rfl (by repeat (first | exact Rm.here | apply Rm.there)) (by rfl) rfl rfl rfl ?_
  clear hp
  intro s hp _
  conv => whnf
  refine Sm.live [0, 1, 5] ?_
  conv => whnf
  refine Sm.seqC (fun e L' s' => e = .normal ∧ s' = s ∧ Sub [(0, .pointer (some ⟨p, 0, none⟩)), (1, .int .i64 (8 - (n : Int))), (5, .pointer (some ⟨p5, 0, none⟩)), (6, .bool r.opens)] L') ?_ ?_
  · conv => whnf
    refine hp.load (v := .int .i64 r.nx.kind) (by repeat (first | exact Has.here | apply Has.there | (apply Has.swap; repeat (first | exact HasR.here | apply HasR.there)))) (by rfl) rfl rfl rfl ?_
    conv => whnf
    have e0 : r.opens = (decide (r.nx.kind = 3) && decide (r.nx.text = [40])) := rfl
    by_cases k3 : r.nx.kind = 3
    · have q : (r.nx.kind == 3) = true := beq_iff_eq.2 k3
      have e1 : (r.nx.text == [40]) = r.opens := by rw [e0, k3]; simp; rw [Bool.eq_iff_iff]; simp
      repeat (first | (refine Br.yes q ?_; conv => whnf) | (first | (refine Br.yes (by first | with_reducible rfl | with_reducible exact beq_self_eq_true _ | rfl) ?_; conv => whnf) | (refine Br.no (by first | with_reducible rfl | with_reducible exact bne_self_eq_false _ | rfl) ?_; conv => whnf)))
      refine hp.load (v := sv r.nx.text) (by repeat (first | exact Has.here | apply Has.there | (apply Has.swap; repeat (first | exact HasR.here | apply HasR.there)))) (by rfl) rfl rfl rfl ?_
      conv => whnf
      repeat (first | (refine Br.yes q ?_; conv => whnf) | (first | (refine Br.yes (by first | with_reducible rfl | with_reducible exact beq_self_eq_true _ | rfl) ?_; conv => whnf) | (refine Br.no (by first | with_reducible rfl | with_reducible exact bne_self_eq_false _ | rfl) ?_; conv => whnf)))
      refine Om.of _ (sv_eq r.nx.text [40]) ?_
      conv => whnf
      repeat (first | (refine Br.yes q ?_; conv => whnf) | (first | (refine Br.yes (by first | with_reducible rfl | with_reducible exact beq_self_eq_true _ | rfl) ?_; conv => whnf) | (refine Br.no (by first | with_reducible rfl | with_reducible exact bne_self_eq_false _ | rfl) ?_; conv => whnf)))
      exact ⟨rfl, rfl, subK_ok ⟨rfl, rfl, rfl, congrArg (fun x => some (Value.bool x)) e1, trivial⟩⟩
    · have q : (r.nx.kind == 3) = false := beq_eq_false_iff_ne.2 k3
      have e1 : r.opens = false := by rw [e0]; simp [k3]
      repeat (first | (refine Br.no q ?_; conv => whnf) | (first | (refine Br.yes (by first | with_reducible rfl | with_reducible exact beq_self_eq_true _ | rfl) ?_; conv => whnf) | (refine Br.no (by first | with_reducible rfl | with_reducible exact bne_self_eq_false _ | rfl) ?_; conv => whnf)))
      rw [e1]
      exact ⟨rfl, rfl, subK_ok ⟨rfl, rfl, rfl, rfl, trivial⟩⟩
  rintro e L' s' ⟨rfl, h1, hs⟩
  obtain rfl := h1.symm
  refine Sm.weak _ hs ?_
  clear hs
  refine Sm.seqC (fun e L' s' => e = .normal ∧ s' = s ∧ Sub [(0, .pointer (some ⟨p, 0, none⟩)), (1, .int .i64 (8 - (n : Int))), (6, .bool r.opens), (7, .bool r.nots)] L') ?_ ?_
  · conv => whnf
    refine hp.load (v := .int .i64 r.nx.kind) (by repeat (first | exact Has.here | apply Has.there | (apply Has.swap; repeat (first | exact HasR.here | apply HasR.there)))) (by rfl) rfl rfl rfl ?_
    conv => whnf
    have e0 : r.nots = (decide (r.nx.kind = 1) && decide (r.nx.text = notT)) := rfl
    by_cases k3 : r.nx.kind = 1
    · have q : (r.nx.kind == 1) = true := beq_iff_eq.2 k3
      have e1 : (r.nx.text == notT) = r.nots := by rw [e0, k3]; simp; rw [Bool.eq_iff_iff]; simp
      repeat (first | (refine Br.yes q ?_; conv => whnf) | (first | (refine Br.yes (by first | with_reducible rfl | with_reducible exact beq_self_eq_true _ | rfl) ?_; conv => whnf) | (refine Br.no (by first | with_reducible rfl | with_reducible exact bne_self_eq_false _ | rfl) ?_; conv => whnf)))
      refine hp.load (v := sv r.nx.text) (by repeat (first | exact Has.here | apply Has.there | (apply Has.swap; repeat (first | exact HasR.here | apply HasR.there)))) (by rfl) rfl rfl rfl ?_
      conv => whnf
      repeat (first | (refine Br.yes q ?_; conv => whnf) | (first | (refine Br.yes (by first | with_reducible rfl | with_reducible exact beq_self_eq_true _ | rfl) ?_; conv => whnf) | (refine Br.no (by first | with_reducible rfl | with_reducible exact bne_self_eq_false _ | rfl) ?_; conv => whnf)))
      refine Om.of _ (sv_eq r.nx.text notT) ?_
      conv => whnf
      repeat (first | (refine Br.yes q ?_; conv => whnf) | (first | (refine Br.yes (by first | with_reducible rfl | with_reducible exact beq_self_eq_true _ | rfl) ?_; conv => whnf) | (refine Br.no (by first | with_reducible rfl | with_reducible exact bne_self_eq_false _ | rfl) ?_; conv => whnf)))
      exact ⟨rfl, rfl, subK_ok ⟨rfl, rfl, rfl, congrArg (fun x => some (Value.bool x)) e1, trivial⟩⟩
    · have q : (r.nx.kind == 1) = false := beq_eq_false_iff_ne.2 k3
      have e1 : r.nots = false := by rw [e0]; simp [k3]
      repeat (first | (refine Br.no q ?_; conv => whnf) | (first | (refine Br.yes (by first | with_reducible rfl | with_reducible exact beq_self_eq_true _ | rfl) ?_; conv => whnf) | (refine Br.no (by first | with_reducible rfl | with_reducible exact bne_self_eq_false _ | rfl) ?_; conv => whnf)))
      rw [e1]
      exact ⟨rfl, rfl, subK_ok ⟨rfl, rfl, rfl, rfl, trivial⟩⟩
  rintro e L' s' ⟨rfl, h1, hs⟩
  obtain rfl := h1.symm
  refine Sm.weak _ hs ?_
  clear hs
  replace hp : Hp X s0 R (RdF p κ tv vl r F) s := hp.pik (by repeat (first | exact Pik.nil | exact Pik.refl _ | exact Rm.here | apply Rm.there | apply Pik.cons | apply Pik.skip))
  refine Sm.seq ?_
  refine Sm.block ?_
  refine Sm.seqW ?_
  conv => whnf
  cases ho : r.opens with
  | true =>
    repeat (first | (refine Br.yes (by first | with_reducible rfl | with_reducible exact beq_self_eq_true _ | rfl) ?_; conv => whnf) | (refine Br.no (by first | with_reducible rfl | with_reducible exact bne_self_eq_false _ | rfl) ?_; conv => whnf))
    refine inner_spec (F := onA κ vl 9 r.l.length (ndC r.l) :: F) hp (8 - (n : Int)) ?_
    clear hp
    intro s hp
    conv => whnf
    cases n with
    | zero =>
      rw [factorF_0 hb (by rw [ho]; rfl)] at hK
      repeat (first | (refine Br.yes (by first | with_reducible rfl | with_reducible exact beq_self_eq_true _ | rfl) ?_; conv => whnf) | (refine Br.no (by first | with_reducible rfl | with_reducible exact bne_self_eq_false _ | rfl) ?_; conv => whnf))
      refine Sm.live [0, 1, 6, 7, 31] ?_
      conv => whnf
      refine Sm.ofW ?_
      conv => whnf
      refine Br.yes rfl ?_
      conv => whnf
      exact ⟨hK _ _ _ _ (hv.same rfl) hp⟩
    | succ n =>
      have hne : ¬ (8 - ((n + 1 : Nat) : Int) = 8) := by omega
      rw [if_neg hne] at hp ⊢
      rw [hb]
      repeat (first | (refine Br.yes (by first | with_reducible rfl | with_reducible exact beq_self_eq_true _ | rfl) ?_; conv => whnf) | (refine Br.no (by first | with_reducible rfl | with_reducible exact bne_self_eq_false _ | rfl) ?_; conv => whnf))
      refine Sm.live [0, 1, 6, 7, 31] ?_
      conv => whnf
      refine Sm.ofW ?_
      conv => whnf
      refine Br.no rfl ?_
      conv => whnf
      refine Br.yes rfl ?_
      conv => whnf
      refine pass_spec (F := onA κ vl 9 r.l.length (ndC r.l) :: F) hp ht hv ?_
      clear hp hv
      intro tv s hv hp
      replace hp : Hp X s0 R (RdF p κ tv vl r.pass F) s := by unfold RdF; rw [pass_l]; exact hp
      conv => whnf
      have ed : IntKind.i64.wrap (8 - ((n + 1 : Nat) : Int) + 1) = 8 - (n : Int) := by rw [wi64 (by omega) (by omega)]; omega
      rw [ed]
      refine cond_spec (ih n rfl) ht _ _ _ _ _ (hin.of (.pass r)) hv hp _ ?_
      clear hp hv
      intro tv vl κ s hv hp
      conv => whnf
      rw [factorF_open n hb ho] at hK
      generalize condF n r.pass = y at *
      refine is_spec (F := onA κ vl 9 y.2.l.length (ndC y.2.l) :: F) hp ht hv 3 [41] ?_
      clear hp hv
      intro tv s hv hp
      replace hp : Hp X s0 R (RdF p κ tv vl (y.2.isS 3 [41]) F) s := by unfold RdF; rw [isS_l]; exact hp
      conv => whnf
      cases hi : y.2.is 3 [41] with
      | true =>
        rw [if_pos hi] at hK
        refine Br.no rfl ?_
        conv => whnf
        exact ⟨hK _ _ _ _ hv hp⟩
      | false =>
        rw [if_neg (by rw [hi]; decide)] at hK
        refine Br.yes rfl ?_
        conv => whnf
        refine fail_spec (F := onA κ vl 9 (y.2.isS 3 [41]).l.length (ndC (y.2.isS 3 [41]).l) :: F) hp ?_
        clear hp
        intro s hp
        conv => whnf
        exact ⟨hK _ _ _ _ (hv.same rfl) hp⟩
  | false =>
    cases hno : r.nots with
    | true =>
      repeat (first | (refine Br.yes (by first | with_reducible rfl | with_reducible exact beq_self_eq_true _ | rfl) ?_; conv => whnf) | (refine Br.no (by first | with_reducible rfl | with_reducible exact bne_self_eq_false _ | rfl) ?_; conv => whnf))
      refine inner_spec (F := onA κ vl 9 r.l.length (ndC r.l) :: F) hp (8 - (n : Int)) ?_
      clear hp
      intro s hp
      conv => whnf
      cases n with
      | zero =>
        rw [factorF_0 hb (by rw [ho, hno]; rfl)] at hK
        repeat (first | (refine Br.yes (by first | with_reducible rfl | with_reducible exact beq_self_eq_true _ | rfl) ?_; conv => whnf) | (refine Br.no (by first | with_reducible rfl | with_reducible exact bne_self_eq_false _ | rfl) ?_; conv => whnf))
        refine Sm.live [0, 1, 6, 7, 31] ?_
        conv => whnf
        refine Sm.ofW ?_
        conv => whnf
        refine Br.yes rfl ?_
        conv => whnf
        exact ⟨hK _ _ _ _ (hv.same rfl) hp⟩
      | succ n =>
        have hne : ¬ (8 - ((n + 1 : Nat) : Int) = 8) := by omega
        rw [if_neg hne] at hp ⊢
        rw [hb]
        repeat (first | (refine Br.yes (by first | with_reducible rfl | with_reducible exact beq_self_eq_true _ | rfl) ?_; conv => whnf) | (refine Br.no (by first | with_reducible rfl | with_reducible exact bne_self_eq_false _ | rfl) ?_; conv => whnf))
        refine Sm.live [0, 1, 6, 7, 31] ?_
        conv => whnf
        refine Sm.ofW ?_
        conv => whnf
        refine Br.no rfl ?_
        conv => whnf
        refine Br.no rfl ?_
        conv => whnf
        refine Br.yes rfl ?_
        conv => whnf
        rw [factorF_not n hb ho hno] at hK
        refine begin_spec (F := onA κ vl 9 r.l.length (ndC r.l) :: F) hp ht hv hin.hi notT ?_
        clear hp hv
        intro tv s hv hp
        replace hp : Hp X s0 R (RdF p κ tv vl (r.begS notT) F) s := by unfold RdF; rw [begS_l]; exact hp
        conv => whnf
        cases hbg : r.beg notT with
        | false =>
          rw [if_neg (by rw [hbg]; decide)] at hK
          refine Br.yes rfl ?_
          conv => whnf
          refine fail_spec (F := onA κ vl 9 (r.begS notT).l.length (ndC (r.begS notT).l) :: F) hp ?_
          clear hp
          intro s hp
          conv => whnf
          exact ⟨hK _ _ _ _ (hv.same rfl) hp⟩
        | true =>
          rw [if_pos hbg] at hK
          refine Br.no rfl ?_
          conv => whnf
          have ed : IntKind.i64.wrap (8 - ((n + 1 : Nat) : Int) + 1) = 8 - (n : Int) := by rw [wi64 (by omega) (by omega)]; omega
          rw [ed]
          have hqb := hin.of (RS.le.begS r notT)
          have hq2 := hqb.of (factorF_le n (r.begS notT))
          have hh := hq2.hi
          have hl := hq2.len
          refine ih n rfl _ _ _ _ _ hqb hv hp _ ?_
          clear hp hv
          intro tv vl κ s hv hp
          conv => whnf
          generalize factorF n (r.begS notT) = y at *
          refine put_specV (r := y.2) (F := F) hp (by omega) ⟨3, 0, [], Dc.zero, y.1, 0⟩ (congrArg (fun l => Value.agg (List.toArray l)) (nd_build7 3 y.1)) ?_
          clear hp
          intro vl κ s hp
          conv => whnf
          exact ⟨hK _ _ _ _ (hv.same (put_t _ _)) hp⟩
    | false =>
      rw [factorF_test n hb ho hno] at hK
      repeat (first | (refine Br.yes (by first | with_reducible rfl | with_reducible exact beq_self_eq_true _ | rfl) ?_; conv => whnf) | (refine Br.no (by first | with_reducible rfl | with_reducible exact bne_self_eq_false _ | rfl) ?_; conv => whnf))
      refine Sm.live [0, 1, 6, 7, 31] ?_
      conv => whnf
      refine Sm.ofW ?_
      conv => whnf
      refine Br.no rfl ?_
      conv => whnf
      refine Br.no rfl ?_
      conv => whnf
      refine Br.no rfl ?_
      conv => whnf
      refine Sm.seqW ?_
      conv => whnf
      refine test_spec hp ht hv hin htx ?_
      clear hp hv
      intro tv vl κ s hv hp
      conv => whnf
      refine Sm.live [4] ?_
      conv => whnf
      refine Sm.ofW ?_
      conv => whnf
      exact ⟨hK _ _ _ _ hv hp⟩
theorem factor_spec (ht : HasR (slA κt (.slice (some ⟨tb, toff, none⟩) toks.length tc) 3 toks.length (tkC toks)) R) (htx : ∀ x ∈ toks, x.text.length ≤ 400) :
    ∀ n : Nat, n ≤ 8 → PartOk X s0 R F toks tb toff tc p 180 #[.pointer (some ⟨p, 0, none⟩)] #[] (8 - (n : Int)) (factorF n)
  | 0, h => factor_step ht htx 0 h fun m e => by cases e
  | n + 1, h => factor_step ht htx (n + 1) h fun m e => by
    obtain rfl : m = n := by omega
    exact factor_spec ht htx m (by omega)
end
end Go.Ev
end

/- Queries are read: the whole of a query. No condition. -/
noncomputable section
namespace Go.Ev
open Go.Proofs
variable [Lk]
set_option linter.unusedSectionVars false
set_option linter.unusedVariables false
set_option maxRecDepth 100000

theorem tok_small : ∀ (n : Nat) (s : List UInt8) (i : Nat) (ts : List Tok), lexN n s i = .inl ts → ts ≠ [] ∧ ∀ x ∈ ts, x.text.length ≤ s.length := by
  intro n
  induction n with
  | zero =>
    intro s i ts h
    simp only [lexN] at h
    injection h with h; subst h
    exact ⟨by simp, fun x hx => by rw [List.mem_singleton] at hx; subst hx; exact Nat.zero_le _⟩
  | succ n ih =>
    intro s i ts h
    simp only [lexN] at h
    cases hd : s.drop i with
    | nil =>
      rw [hd] at h
      injection h with h; subst h
      exact ⟨by simp, fun x hx => by rw [List.mem_singleton] at hx; subst hx; exact Nat.zero_le _⟩
    | cons c r =>
      have hrl : s.length - i = r.length + 1 := by have := congrArg List.length hd; simpa using this
      rw [hd] at h
      by_cases hc : c = 32
      · simp only [hc, if_true] at h
        exact ih s (i + 1) ts h
      · simp only [hc, if_false] at h
        cases ho : oneL c r i with
        | none => rw [ho] at h; cases h
        | some x =>
          obtain ⟨t1, t2, t3, t4, t5⟩ := oneL_text ho
          rw [ho] at h
          simp only at h
          cases hx : lexN n s (i + x.text.length) with
          | inr k => rw [hx] at h; cases h
          | inl us =>
            rw [hx] at h
            injection h with h; subst h
            refine ⟨by simp, fun y hy => ?_⟩
            rcases List.mem_cons.1 hy with rfl | hy
            · omega
            · exact (ih s _ us hx).2 y hy
theorem tokR_small {s : List UInt8} {ts : List Tok} (h : tokR s = .inl ts) : ts ≠ [] ∧ s.length ≤ 400 ∧ ∀ x ∈ ts, x.text.length ≤ 400 := by
  unfold tokR at h
  split at h
  · cases h
  · obtain ⟨h1, h2⟩ := tok_small _ _ _ _ h
    exact ⟨h1, by omega, fun x hx => Nat.le_trans (h2 x hx) (by omega)⟩
/-- A whole number of a limit. -/
def wholeI (d : Dc) : Int × Bool := if d.neg = false ∧ d.scale = 0 ∧ 1 ≤ d.c ∧ d.c ≤ 64 then ((d.c : Int), true) else (0, false)
theorem whole_of {d : Dc} {n : Nat} (h1 : 1 ≤ n) (h2 : n ≤ 64) (h : eqD d (ofD (n : Int) 0) = true) : wholeI d = ((n : Int), true) := by
  unfold eqD ofD at h
  simp only [Bool.and_eq_true, beq_iff_eq, decide_eq_true_eq] at h
  obtain ⟨a1, a2, a3⟩ := h
  unfold wholeI
  have hc : d.c = n := by omega
  rw [if_pos ⟨by rw [a1]; exact decide_eq_false (by omega), by rw [a3]; omega, by omega, by omega⟩, hc]
theorem whole_no {d : Dc} (h : ∀ n : Nat, 1 ≤ n → n ≤ 64 → eqD d (ofD (n : Int) 0) = false) : wholeI d = (0, false) := by
  unfold wholeI
  refine if_neg fun g => ?_
  obtain ⟨g1, g2, g3, g4⟩ := g
  have := h d.c g3 g4
  unfold eqD ofD at this
  have e1 : decide ((d.c : Int) < 0) = false := decide_eq_false (by omega)
  have e2 : (d.c : Int).natAbs = d.c := by omega
  have e3 : max 0 (min (0 : Int) 9) = 0 := by decide
  rw [g1, g2, e1, e2, e3] at this
  simp at this
theorem whole_spec {z : St} (wf : WF z) (d : Dc) : Cw Tryz.prog 106 [d.val] z fun v s' => K0 z s' ∧ v = .tuple #[.int .i64 (wholeI d).1, .bool (wholeI d).2] := by
  have hp : Hp (fun _ => False) z [] [] z := Hp.start _ wf _ (by simp)
  refine Cw.enterS Tryz.func106 rfl rfl ?_
  refine Sm.seqW ?_
  conv => whnf
  refine hp.var (cs := d.cells) (e := 4) rfl rfl ?_
  clear hp
  intro p1 s hp _
  conv => whnf
  refine Sm.live [1] ?_
  conv => whnf
  refine Sm.seq ?_
  refine Sm.seqW ?_
  conv => whnf
  refine Sm.live [1, 4] ?_
  conv => whnf
  refine Sm.block ?_
  refine Sm.loop ?_
  refine Lp.ofS (α := Nat) (fun x => [(1, .pointer (some ⟨p1, 0, none⟩)), (4, .int .i64 ((x + 1 : Nat) : Int))])
    (fun x s' => x ≤ 64 ∧ (∀ m, 1 ≤ m → m ≤ x → eqD d (ofD (m : Int) 0) = false) ∧ Hp (fun _ => False) z [] [blkA p1 p1 d.cells 4] s')
    (fun x => 64 - x) ?_ 0 (subK_ok (by refine ⟨rfl, rfl, trivial⟩)) ⟨Nat.zero_le _, fun m h1 h2 => by omega, hp⟩
  clear hp
  rintro x s ⟨hx, hno, hp⟩
  refine Sm.seq ?_
  refine Sm.seqW ?_
  conv => whnf
  refine Sm.live [1, 4, 6] ?_
  conv => whnf
  refine Sm.ofW ?_
  conv => whnf
  refine Br.mk (fun hq => ?_) (fun hq => ?_)
  · have hx2 : x < 64 := by have := of_decide_eq_true hq; omega
    have e6 : IntKind.i64.wrap (((x + 1 : Nat) : Int) + 1) = ((x + 1 + 1 : Nat) : Int) := by rw [wi64 (by omega) (by omega)]; push_cast; rfl
    conv => whnf
    refine Sm.seq ?_
    refine Sm.block ?_
    refine Sm.seqW ?_
    conv => whnf
    refine ⟨[0, 0, 2, 7], by decide +kernel, by decide +kernel, ?_⟩
    conv => whnf
    refine hp.loadA (l := d.cells) (by repeat (first | exact Has.here | apply Has.there | (apply Has.swap; repeat (first | exact HasR.here | apply HasR.there)))) rfl (by rfl) rfl rfl ?_
    conv => whnf
    refine hp.rst.call (dof_spec hp.rst.wf (n := ((x + 1 : Nat) : Int)) (by unfold inR; omega) 0) ?_
    rintro _ s1 rfl h1 k1
    conv => whnf
    refine hp.dkN h1 k1 ?_
    clear hp h1 k1
    intro s hp
    conv => whnf
    refine Om.of _ (dc_eq d (ofD ((x + 1 : Nat) : Int) 0) _) ?_
    conv => whnf
    conv => whnf
    refine Sm.live [1, 4, 12] ?_
    conv => whnf
    refine Sm.ofW ?_
    conv => whnf
    cases he : eqD d (ofD ((x + 1 : Nat) : Int) 0) with
    | true =>
      refine Br.yes rfl ?_
      conv => whnf
      rw [whole_of (by omega) (by omega) he]
      exact ⟨hp.fr, rfl⟩
    | false =>
      refine Br.no rfl ?_
      conv => whnf
      refine Sm.ofW ?_
      conv => whnf
      exact ⟨x + 1, by (show 64 - (x + 1) < 64 - x); omega, subK_ok (by refine ⟨rfl, congrArg (fun x => some (Value.int .i64 x)) e6, trivial⟩), by omega, fun m h1 h2 => by
        by_cases g : m = x + 1
        · subst g; exact he
        · exact hno m h1 (by omega), hp⟩
  · have hx2 : x = 64 := by have := of_decide_eq_false hq; omega
    subst hx2
    conv => whnf
    refine Sm.seqW ?_
    conv => whnf
    refine Sm.live [2, 3] ?_
    conv => whnf
    refine Sm.ofW ?_
    conv => whnf
    rw [whole_no fun n h1 h2 => hno n h1 h2]
    exact ⟨hp.fr, rfl⟩
end Go.Ev
end

/- Queries are read: (*reader).query. No condition. -/
noncomputable section
namespace Go.Ev
open Go.Proofs
variable [Lk]
set_option linter.unusedSectionVars false
set_option linter.unusedVariables false
set_option maxRecDepth 100000

structure Qy where
  nodes : List Qn
  root : Int
  by_ : Int
  sum : Bool
  desc : Bool
  limit : Int
def Qy.zero : Qy := ⟨[], 0, 0, false, false, 0⟩
def Qy.cells (q : Qy) (v : Value) : List Value := [v, .int .i64 q.root, .int .i64 q.by_, .bool q.sum, .bool q.desc, .int .i64 q.limit]
def Qy.val (q : Qy) (v : Value) : Value := .agg #[v, .int .i64 q.root, .int .i64 q.by_, .bool q.sum, .bool q.desc, .int .i64 q.limit]
def qc (v : Value) (root by_ : Int) (sum desc : Bool) (limit : Int) : List Value := [v, .int .i64 root, .int .i64 by_, .bool sum, .bool desc, .int .i64 limit]
def sumT : List UInt8 := [115, 117, 109]
def rowsT : List UInt8 := [114, 111, 119, 115]
def whereT : List UInt8 := [119, 104, 101, 114, 101]
def byT : List UInt8 := [98, 121]
def descT : List UInt8 := [100, 101, 115, 99]
def limitT : List UInt8 := [108, 105, 109, 105, 116]
/-- rows or sum; the condition; by; desc; limit; the end. -/
def q1F (r : RS) : RS := if r.is 1 sumT = true then r.isS 1 sumT else if (r.isS 1 sumT).is 1 rowsT = true then (r.isS 1 sumT).isS 1 rowsT else ((r.isS 1 sumT).isS 1 rowsT).fail
def q2F (r : RS) : Int × RS := if r.is 1 whereT = true then condF 7 (r.isS 1 whereT) else (-1, r.isS 1 whereT)
def q3F (sum : Bool) (r : RS) : Int × RS :=
  if sum = false then (0, r) else if r.is 1 byT = false then (0, r.isS 1 byT)
  else ((r.isS 1 byT).field, RS.pass (if (r.isS 1 byT).field = 0 ∨ (r.isS 1 byT).field = 5 then (r.isS 1 byT).fail else r.isS 1 byT))
def q5F (r : RS) : Int × RS :=
  if r.is 1 limitT = false then (0, r.isS 1 limitT)
  else ((wholeI (r.isS 1 limitT).numV).1, if (wholeI (r.isS 1 limitT).numV).2 = false ∧ (r.isS 1 limitT).numS.bad = false then { (r.isS 1 limitT).numS with t := (r.isS 1 limitT).t, bad := true } else (r.isS 1 limitT).numS)
def q6F (r : RS) : RS := if r.bad = false ∧ r.nx.kind ≠ 4 then r.fail else r
def queryF (r : RS) : Qy × RS :=
  let sum := r.is 1 sumT
  let x2 := q2F (q1F r)
  let x3 := q3F sum x2.2
  let r4 := x3.2.isS 1 descT
  let x5 := q5F r4
  (⟨(q6F x5.2).l, x2.1, x3.1, sum, x3.2.is 1 descT, x5.1⟩, q6F x5.2)
theorem RS.le.ret (r : RS) : r.le (if (wholeI (r.isS 1 limitT).numV).2 = false ∧ (r.isS 1 limitT).numS.bad = false then { (r.isS 1 limitT).numS with t := (r.isS 1 limitT).t, bad := true } else (r.isS 1 limitT).numS) := by
  have h := RS.le.isS r 1 limitT
  split
  · have g := h.trans (.numS _)
    exact ⟨h.t, h.ne, g.lo, g.hi, g.len⟩
  · exact h.trans (.numS _)
theorem q1F_le (r : RS) : r.le (q1F r) := by
  unfold q1F
  split
  · exact .isS _ _ _
  · split
    · exact (RS.le.isS r _ _).trans (.isS _ _ _)
    · exact ((RS.le.isS r _ _).trans (.isS _ _ _)).trans (.fail _)
theorem q2F_le (r : RS) : r.le (q2F r).2 := by
  unfold q2F
  split
  · exact (RS.le.isS r _ _).trans (condF_le 7 _)
  · exact .isS r _ _
theorem q3F_le (s : Bool) (r : RS) : r.le (q3F s r).2 := by
  unfold q3F
  split
  · exact .refl r
  · split
    · exact .isS r _ _
    · refine (RS.le.isS r 1 byT).trans (RS.le.trans ?_ (.pass _))
      split
      · exact .fail _
      · exact .refl _
theorem q3F_l (s : Bool) (r : RS) : (q3F s r).2.l = r.l := by
  unfold q3F
  split
  · rfl
  · split
    · exact isS_l _ _ _
    · simp only
      rw [pass_l]
      split
      · exact isS_l r _ _
      · exact isS_l r _ _
theorem q5F_le (r : RS) : r.le (q5F r).2 := by
  unfold q5F
  split
  · exact .isS r _ _
  · exact .ret r
theorem q5F_l (r : RS) : (q5F r).2.l = r.l := by
  unfold q5F
  split
  · exact isS_l _ _ _
  · simp only
    split
    · show ((r.isS 1 limitT).numS).l = _; rw [numS_l, isS_l]
    · rw [numS_l, isS_l]
theorem q6F_l (r : RS) : (q6F r).l = r.l := by
  unfold q6F
  split <;> rfl
section
variable {X : Nat → Prop} {s0 s : St} {R F : List At} {κt κ : Option Nat} {toks : List Tok} {tb toff tc p : Nat} {tv vl : Value} {r : RS}
theorem query_spec (hp : Hp X s0 R (RdF p κ tv vl r F) s) (ht : HasR (slA κt (.slice (some ⟨tb, toff, none⟩) toks.length tc) 3 toks.length (tkC toks)) R) (hv : TvOk toks tb toff tc tv r) (hin : r.in_) (htx : ∀ x ∈ toks, x.text.length ≤ 400) {K : Value → St → Prop}
    (hK : ∀ tv' vl' κ' s', TvOk toks tb toff tc tv' (queryF r).2 → Hp X s0 R (RdF p κ' tv' vl' (queryF r).2 F) s' → K ((queryF r).1.val vl') s') :
    Cw Tryz.prog 51 [.pointer (some ⟨p, 0, none⟩)] s K := by
  refine Cw.enterS Tryz.func51 rfl rfl ?_
  refine Sm.seqW ?_
  conv => whnf
  refine hp.alloc (cs := (Qy.zero.cells (.slice none 0 0))) (e := 6) rfl rfl rfl rfl rfl ?_
  clear hp
  intro p2 s hp _
  conv => whnf
  refine Sm.live [0, 2] ?_
  conv => whnf
  refine Sm.seqW ?_
  conv => whnf
  refine hp.alloc (cs := (Qy.zero.cells (.slice none 0 0))) (e := 6) rfl rfl rfl rfl rfl ?_
  clear hp
  intro p3 s hp _
  conv => whnf
  refine hp.storeW (vs := qc (.slice none 0 0) (-1) 0 false false 0) (C := Qy.zero.cells (.slice none 0 0)) rfl (by repeat (first | exact Rm.here | apply Rm.there)) (by rfl) rfl rfl rfl ?_
  clear hp
  intro s hp _
  conv => whnf
  refine Sm.live [0, 2, 3] ?_
  conv => whnf
  refine Sm.seqW ?_
  conv => whnf
  refine is_spec (F := blkA p3 p3 (qc (.slice none 0 0) (-1) 0 false false 0) 6 :: blkA p2 p2 (Qy.zero.cells (.slice none 0 0)) 6 :: onA κ vl 9 r.l.length (ndC r.l) :: F) (hp.pik (by repeat (first | exact Pik.nil | exact Pik.refl _ | exact Rm.here | apply Rm.there | apply Pik.cons | apply Pik.skip))) ht hv 1 sumT ?_
  clear hp
  have hq1 : q1F r = if r.is 1 sumT = true then r.isS 1 sumT else if (r.isS 1 sumT).is 1 rowsT = true then (r.isS 1 sumT).isS 1 rowsT else ((r.isS 1 sumT).isS 1 rowsT).fail := rfl
  have hl1 := isS_l r 1 sumT
  have hK' := hK
  generalize hS : r.is 1 sumT = S at hq1 hl1
  generalize hR1 : r.isS 1 sumT = r1 at hq1 hl1
  intro tv1 s hv1 hp
  conv => whnf
  refine hp.store (v := .bool S) (off := 3) (by repeat (first | exact Rm.here | apply Rm.there)) (by show 3 < 6; decide) rfl rfl rfl rfl ?_
  clear hp
  intro s hp _
  replace hp : Hp X s0 R (blkA p3 p3 (qc (.slice none 0 0) (-1) 0 S false 0) 6 :: blkA p p (rdC tv1 vl r1) 4 :: blkA p2 p2 (Qy.zero.cells (.slice none 0 0)) 6 :: onA κ vl 9 r.l.length (ndC r.l) :: F) s := hp
  conv => whnf
  refine Sm.live [0, 2, 3] ?_
  conv => whnf
  -- rows
  refine Sm.seqC (fun e L' s' => e = .normal ∧ (∃ tv', TvOk toks tb toff tc tv' (q1F r) ∧ Hp X s0 R (blkA p3 p3 (qc (.slice none 0 0) (-1) 0 S false 0) 6 :: blkA p2 p2 (Qy.zero.cells (.slice none 0 0)) 6 :: RdF p κ tv' vl (q1F r) F) s') ∧ Sub [(0, .pointer (some ⟨p, 0, none⟩)), (2, .pointer (some ⟨p2, 0, none⟩)), (3, .pointer (some ⟨p3, 0, none⟩))] L') ?_ ?_
  · conv => whnf
    refine hp.load (v := .bool S) (by repeat (first | exact Has.here | apply Has.there | (apply Has.swap; repeat (first | exact HasR.here | apply HasR.there)))) (by rfl) rfl rfl rfl ?_
    conv => whnf
    cases S with
    | true =>
      rw [if_pos rfl] at hq1
      rw [hq1]
      repeat (first | (refine Br.yes (by first | with_reducible rfl | with_reducible exact beq_self_eq_true _ | rfl) ?_; conv => whnf) | (refine Br.no (by first | with_reducible rfl | with_reducible exact bne_self_eq_false _ | rfl) ?_; conv => whnf))
      exact ⟨rfl, ⟨tv1, hv1, by unfold RdF; rw [hl1]; exact hp.pik (by repeat (first | exact Pik.nil | exact Pik.refl _ | exact Rm.here | apply Rm.there | apply Pik.cons | apply Pik.skip))⟩, subK_ok ⟨rfl, rfl, rfl, trivial⟩⟩
    | false =>
      rw [if_neg (by decide)] at hq1
      repeat (first | (refine Br.yes (by first | with_reducible rfl | with_reducible exact beq_self_eq_true _ | rfl) ?_; conv => whnf) | (refine Br.no (by first | with_reducible rfl | with_reducible exact bne_self_eq_false _ | rfl) ?_; conv => whnf))
      refine is_spec (F := blkA p3 p3 (qc (.slice none 0 0) (-1) 0 false false 0) 6 :: blkA p2 p2 (Qy.zero.cells (.slice none 0 0)) 6 :: onA κ vl 9 r.l.length (ndC r.l) :: F) (hp.pik (by repeat (first | exact Pik.nil | exact Pik.refl _ | exact Rm.here | apply Rm.there | apply Pik.cons | apply Pik.skip))) ht hv1 1 rowsT ?_
      clear hp
      intro tv2 s hv2 hp
      conv => whnf
      cases hb : r1.is 1 rowsT with
      | true =>
        rw [if_pos hb] at hq1
        rw [hq1]
        repeat (first | (refine Br.yes (by first | with_reducible rfl | with_reducible exact beq_self_eq_true _ | rfl) ?_; conv => whnf) | (refine Br.no (by first | with_reducible rfl | with_reducible exact bne_self_eq_false _ | rfl) ?_; conv => whnf))
        exact ⟨rfl, ⟨tv2, hv2, by unfold RdF; rw [isS_l, hl1]; exact hp.pik (by repeat (first | exact Pik.nil | exact Pik.refl _ | exact Rm.here | apply Rm.there | apply Pik.cons | apply Pik.skip))⟩, subK_ok ⟨rfl, rfl, rfl, trivial⟩⟩
      | false =>
        rw [if_neg (by rw [hb]; decide)] at hq1
        rw [hq1]
        repeat (first | (refine Br.yes (by first | with_reducible rfl | with_reducible exact beq_self_eq_true _ | rfl) ?_; conv => whnf) | (refine Br.no (by first | with_reducible rfl | with_reducible exact bne_self_eq_false _ | rfl) ?_; conv => whnf))
        refine fail_spec (F := blkA p3 p3 (qc (.slice none 0 0) (-1) 0 false false 0) 6 :: blkA p2 p2 (Qy.zero.cells (.slice none 0 0)) 6 :: onA κ vl 9 r.l.length (ndC r.l) :: F) (hp.pik (by repeat (first | exact Pik.nil | exact Pik.refl _ | exact Rm.here | apply Rm.there | apply Pik.cons | apply Pik.skip))) ?_
        clear hp
        intro s hp
        conv => whnf
        exact ⟨rfl, ⟨tv2, hv2.same rfl, by unfold RdF; rw [show (r1.isS 1 rowsT).fail.l = r.l from (isS_l _ _ _).trans hl1]; exact hp.pik (by repeat (first | exact Pik.nil | exact Pik.refl _ | exact Rm.here | apply Rm.there | apply Pik.cons | apply Pik.skip))⟩, subK_ok ⟨rfl, rfl, rfl, trivial⟩⟩
  rintro e L' s ⟨rfl, ⟨tv2, hv2, hp⟩, hs⟩
  refine Sm.weak _ hs ?_
  clear hs hv1 hq1 hl1 hR1
  have hin2 := hin.of (q1F_le r)
  generalize hR2 : q1F r = r2 at hp hv2 hin2
  -- where
  refine Sm.seqC (fun e L' s' => e = .normal ∧ (∃ tv' vl' κ', TvOk toks tb toff tc tv' (q2F r2).2 ∧ Hp X s0 R (blkA p3 p3 (qc (.slice none 0 0) (q2F r2).1 0 S false 0) 6 :: blkA p2 p2 (Qy.zero.cells (.slice none 0 0)) 6 :: RdF p κ' tv' vl' (q2F r2).2 F) s') ∧ Sub [(0, .pointer (some ⟨p, 0, none⟩)), (2, .pointer (some ⟨p2, 0, none⟩)), (3, .pointer (some ⟨p3, 0, none⟩))] L') ?_ ?_
  · conv => whnf
    have hq2 : q2F r2 = if r2.is 1 whereT = true then condF 7 (r2.isS 1 whereT) else (-1, r2.isS 1 whereT) := rfl
    have hl2 := isS_l r2 1 whereT
    have hin2' := hin2.of (RS.le.isS r2 1 whereT)
    refine is_spec (F := blkA p3 p3 (qc (.slice none 0 0) (-1) 0 S false 0) 6 :: blkA p2 p2 (Qy.zero.cells (.slice none 0 0)) 6 :: onA κ vl 9 r2.l.length (ndC r2.l) :: F) (hp.pik (by repeat (first | exact Pik.nil | exact Pik.refl _ | exact Rm.here | apply Rm.there | apply Pik.cons | apply Pik.skip))) ht hv2 1 whereT ?_
    clear hp
    intro tv3 s hv3 hp
    conv => whnf
    rw [← hl2] at hp
    cases hb : r2.is 1 whereT with
    | true =>
      rw [if_pos hb] at hq2
      rw [hq2]
      repeat (first | (refine Br.yes (by first | with_reducible rfl | with_reducible exact beq_self_eq_true _ | rfl) ?_; conv => whnf) | (refine Br.no (by first | with_reducible rfl | with_reducible exact bne_self_eq_false _ | rfl) ?_; conv => whnf))
      refine cond_spec (factor_spec ht htx 7 (by decide)) ht _ _ _ _ _ hin2' hv3 (F := blkA p3 p3 (qc (.slice none 0 0) (-1) 0 S false 0) 6 :: blkA p2 p2 (Qy.zero.cells (.slice none 0 0)) 6 :: F) (hp.pik (by repeat (first | exact Pik.nil | exact Pik.refl _ | exact Rm.here | apply Rm.there | apply Pik.cons | apply Pik.skip))) _ ?_
      clear hp
      intro tv4 vl4 κ4 s hv4 hp
      conv => whnf
      refine hp.store (v := .int .i64 (condF 7 (r2.isS 1 whereT)).1) (off := 1) (by repeat (first | exact Rm.here | apply Rm.there)) (by show 1 < 6; decide) rfl rfl rfl rfl ?_
      clear hp
      intro s hp _
      replace hp : Hp X s0 R (blkA p3 p3 (qc (.slice none 0 0) (condF 7 (r2.isS 1 whereT)).1 0 S false 0) 6 :: blkA p p (rdC tv4 vl4 (condF 7 (r2.isS 1 whereT)).2) 4 :: onA κ4 vl4 9 (condF 7 (r2.isS 1 whereT)).2.l.length (ndC (condF 7 (r2.isS 1 whereT)).2.l) :: blkA p2 p2 (Qy.zero.cells (.slice none 0 0)) 6 :: F) s := hp
      conv => whnf
      exact ⟨rfl, ⟨tv4, vl4, κ4, hv4, hp.pik (by repeat (first | exact Pik.nil | exact Pik.refl _ | exact Rm.here | apply Rm.there | apply Pik.cons | apply Pik.skip))⟩, subK_ok ⟨rfl, rfl, rfl, trivial⟩⟩
    | false =>
      rw [if_neg (by rw [hb]; decide)] at hq2
      rw [hq2]
      repeat (first | (refine Br.yes (by first | with_reducible rfl | with_reducible exact beq_self_eq_true _ | rfl) ?_; conv => whnf) | (refine Br.no (by first | with_reducible rfl | with_reducible exact bne_self_eq_false _ | rfl) ?_; conv => whnf))
      exact ⟨rfl, ⟨tv3, vl, κ, hv3, hp.pik (by repeat (first | exact Pik.nil | exact Pik.refl _ | exact Rm.here | apply Rm.there | apply Pik.cons | apply Pik.skip))⟩, subK_ok ⟨rfl, rfl, rfl, trivial⟩⟩
  clear hp
  rintro e L' s ⟨rfl, ⟨tv3, vl3, κ3, hv3, hp⟩, hs⟩
  refine Sm.weak _ hs ?_
  clear hs hv2
  have hin3 := hin2.of (q2F_le r2)
  generalize hR3 : q2F r2 = y3 at hp hv3 hin3
  obtain ⟨root, r3⟩ := y3
  simp only at hp hv3 hin3
  -- by
  refine Sm.seqC (fun e L' s' => e = .normal ∧ (∃ tv', TvOk toks tb toff tc tv' (q3F S r3).2 ∧ Hp X s0 R (blkA p3 p3 (qc (.slice none 0 0) root (q3F S r3).1 S false 0) 6 :: blkA p2 p2 (Qy.zero.cells (.slice none 0 0)) 6 :: RdF p κ3 tv' vl3 (q3F S r3).2 F) s') ∧ Sub [(0, .pointer (some ⟨p, 0, none⟩)), (2, .pointer (some ⟨p2, 0, none⟩)), (3, .pointer (some ⟨p3, 0, none⟩))] L') ?_ ?_
  · conv => whnf
    have hl := q3F_l S r3
    have hq3 : q3F S r3 = if S = false then (0, r3) else if r3.is 1 byT = false then (0, r3.isS 1 byT)
      else ((r3.isS 1 byT).field, RS.pass (if (r3.isS 1 byT).field = 0 ∨ (r3.isS 1 byT).field = 5 then (r3.isS 1 byT).fail else r3.isS 1 byT)) := rfl
    refine hp.load (v := .bool S) (by repeat (first | exact Has.here | apply Has.there | (apply Has.swap; repeat (first | exact HasR.here | apply HasR.there)))) (by rfl) rfl rfl rfl ?_
    conv => whnf
    cases S with
    | false =>
      rw [if_pos rfl] at hq3
      rw [hq3]
      repeat (first | (refine Br.yes (by first | with_reducible rfl | with_reducible exact beq_self_eq_true _ | rfl) ?_; conv => whnf) | (refine Br.no (by first | with_reducible rfl | with_reducible exact bne_self_eq_false _ | rfl) ?_; conv => whnf))
      exact ⟨rfl, ⟨tv3, hv3, hp.pik (by repeat (first | exact Pik.nil | exact Pik.refl _ | exact Rm.here | apply Rm.there | apply Pik.cons | apply Pik.skip))⟩, subK_ok ⟨rfl, rfl, rfl, trivial⟩⟩
    | true =>
      rw [if_neg (by decide)] at hq3
      repeat (first | (refine Br.yes (by first | with_reducible rfl | with_reducible exact beq_self_eq_true _ | rfl) ?_; conv => whnf) | (refine Br.no (by first | with_reducible rfl | with_reducible exact bne_self_eq_false _ | rfl) ?_; conv => whnf))
      refine is_spec (F := blkA p3 p3 (qc (.slice none 0 0) root 0 true false 0) 6 :: blkA p2 p2 (Qy.zero.cells (.slice none 0 0)) 6 :: onA κ3 vl3 9 r3.l.length (ndC r3.l) :: F) (hp.pik (by repeat (first | exact Pik.nil | exact Pik.refl _ | exact Rm.here | apply Rm.there | apply Pik.cons | apply Pik.skip))) ht hv3 1 byT ?_
      clear hp
      intro tv4 s hv4 hp
      conv => whnf
      cases hb : r3.is 1 byT with
      | false =>
        rw [if_pos hb] at hq3
        rw [hq3] at hl ⊢
        repeat (first | (refine Br.yes (by first | with_reducible rfl | with_reducible exact beq_self_eq_true _ | rfl) ?_; conv => whnf) | (refine Br.no (by first | with_reducible rfl | with_reducible exact bne_self_eq_false _ | rfl) ?_; conv => whnf))
        exact ⟨rfl, ⟨tv4, hv4, by unfold RdF; rw [hl]; exact hp.pik (by repeat (first | exact Pik.nil | exact Pik.refl _ | exact Rm.here | apply Rm.there | apply Pik.cons | apply Pik.skip))⟩, subK_ok ⟨rfl, rfl, rfl, trivial⟩⟩
      | true =>
        rw [if_neg (by rw [hb]; decide)] at hq3
        rw [hq3] at hl ⊢
        repeat (first | (refine Br.yes (by first | with_reducible rfl | with_reducible exact beq_self_eq_true _ | rfl) ?_; conv => whnf) | (refine Br.no (by first | with_reducible rfl | with_reducible exact bne_self_eq_false _ | rfl) ?_; conv => whnf))
        generalize r3.isS 1 byT = ra at *
        refine hp.call (field_spec hp.wf (hp.blk (by repeat (first | exact Has.here | apply Has.there | (apply Has.swap; repeat (first | exact HasR.here | apply HasR.there))))) (hp.slR ht) hv4) ?_
        clear hp
        rintro _ s rfl hp _
        conv => whnf
        refine hp.store (v := .int .i64 ra.field) (off := 2) (by repeat (first | exact Rm.here | apply Rm.there)) (by show 2 < 6; decide) rfl rfl rfl rfl ?_
        clear hp
        intro s hp _
        replace hp : Hp X s0 R (blkA p3 p3 (qc (.slice none 0 0) root ra.field true false 0) 6 :: blkA p p (rdC tv4 vl3 ra) 4 :: blkA p2 p2 (Qy.zero.cells (.slice none 0 0)) 6 :: onA κ3 vl3 9 r3.l.length (ndC r3.l) :: F) s := hp
        conv => whnf
        refine hp.load (v := .int .i64 ra.field) (by repeat (first | exact Has.here | apply Has.there | (apply Has.swap; repeat (first | exact HasR.here | apply HasR.there)))) (by rfl) rfl rfl rfl ?_
        conv => whnf
        simp only at hl
        have hl2 : ra.l = r3.l := by
          rw [pass_l] at hl
          split at hl
          · exact hl
          · exact hl
        by_cases c0 : ra.field = 0
        · have q : (ra.field == 0) = true := beq_iff_eq.2 c0
          repeat (first | (refine Br.yes q ?_; conv => whnf) | (first | (refine Br.yes (by first | with_reducible rfl | with_reducible exact beq_self_eq_true _ | rfl) ?_; conv => whnf) | (refine Br.no (by first | with_reducible rfl | with_reducible exact bne_self_eq_false _ | rfl) ?_; conv => whnf)))
          rw [if_pos (.inl c0)]
          refine fail_spec (F := blkA p3 p3 (qc (.slice none 0 0) root ra.field true false 0) 6 :: blkA p2 p2 (Qy.zero.cells (.slice none 0 0)) 6 :: onA κ3 vl3 9 r3.l.length (ndC r3.l) :: F) (hp.pik (by repeat (first | exact Pik.nil | exact Pik.refl _ | exact Rm.here | apply Rm.there | apply Pik.cons | apply Pik.skip))) ?_
          clear hp
          intro s hp
          conv => whnf
          refine pass_spec (r := ra.fail) hp ht (hv4.same rfl) ?_
          clear hp
          intro tv5 s hv5 hp
          conv => whnf
          exact ⟨rfl, ⟨tv5, hv5, by unfold RdF; rw [pass_l, show ra.fail.l = r3.l from hl2]; exact hp.pik (by repeat (first | exact Pik.nil | exact Pik.refl _ | exact Rm.here | apply Rm.there | apply Pik.cons | apply Pik.skip))⟩, subK_ok ⟨rfl, rfl, rfl, trivial⟩⟩
        · have q : (ra.field == 0) = false := beq_eq_false_iff_ne.2 c0
          repeat (first | (refine Br.no q ?_; conv => whnf) | (first | (refine Br.yes (by first | with_reducible rfl | with_reducible exact beq_self_eq_true _ | rfl) ?_; conv => whnf) | (refine Br.no (by first | with_reducible rfl | with_reducible exact bne_self_eq_false _ | rfl) ?_; conv => whnf)))
          refine hp.load (v := .int .i64 ra.field) (by repeat (first | exact Has.here | apply Has.there | (apply Has.swap; repeat (first | exact HasR.here | apply HasR.there)))) (by rfl) rfl rfl rfl ?_
          conv => whnf
          by_cases c5 : ra.field = 5
          · have q5 : (ra.field == 5) = true := beq_iff_eq.2 c5
            repeat (first | (refine Br.no q ?_; conv => whnf) | (refine Br.yes q5 ?_; conv => whnf) | (first | (refine Br.yes (by first | with_reducible rfl | with_reducible exact beq_self_eq_true _ | rfl) ?_; conv => whnf) | (refine Br.no (by first | with_reducible rfl | with_reducible exact bne_self_eq_false _ | rfl) ?_; conv => whnf)))
            rw [if_pos (.inr c5)]
            refine fail_spec (F := blkA p3 p3 (qc (.slice none 0 0) root ra.field true false 0) 6 :: blkA p2 p2 (Qy.zero.cells (.slice none 0 0)) 6 :: onA κ3 vl3 9 r3.l.length (ndC r3.l) :: F) (hp.pik (by repeat (first | exact Pik.nil | exact Pik.refl _ | exact Rm.here | apply Rm.there | apply Pik.cons | apply Pik.skip))) ?_
            clear hp
            intro s hp
            conv => whnf
            refine pass_spec (r := ra.fail) hp ht (hv4.same rfl) ?_
            clear hp
            intro tv5 s hv5 hp
            conv => whnf
            exact ⟨rfl, ⟨tv5, hv5, by unfold RdF; rw [pass_l, show ra.fail.l = r3.l from hl2]; exact hp.pik (by repeat (first | exact Pik.nil | exact Pik.refl _ | exact Rm.here | apply Rm.there | apply Pik.cons | apply Pik.skip))⟩, subK_ok ⟨rfl, rfl, rfl, trivial⟩⟩
          · have q5 : (ra.field == 5) = false := beq_eq_false_iff_ne.2 c5
            repeat (first | (refine Br.no q ?_; conv => whnf) | (refine Br.no q5 ?_; conv => whnf) | (first | (refine Br.yes (by first | with_reducible rfl | with_reducible exact beq_self_eq_true _ | rfl) ?_; conv => whnf) | (refine Br.no (by first | with_reducible rfl | with_reducible exact bne_self_eq_false _ | rfl) ?_; conv => whnf)))
            rw [if_neg (fun h => h.elim c0 c5)]
            refine pass_spec (r := ra) (F := blkA p3 p3 (qc (.slice none 0 0) root ra.field true false 0) 6 :: blkA p2 p2 (Qy.zero.cells (.slice none 0 0)) 6 :: onA κ3 vl3 9 r3.l.length (ndC r3.l) :: F) (hp.pik (by repeat (first | exact Pik.nil | exact Pik.refl _ | exact Rm.here | apply Rm.there | apply Pik.cons | apply Pik.skip))) ht hv4 ?_
            clear hp
            intro tv5 s hv5 hp
            conv => whnf
            exact ⟨rfl, ⟨tv5, hv5, by unfold RdF; rw [pass_l, hl2]; exact hp.pik (by repeat (first | exact Pik.nil | exact Pik.refl _ | exact Rm.here | apply Rm.there | apply Pik.cons | apply Pik.skip))⟩, subK_ok ⟨rfl, rfl, rfl, trivial⟩⟩
  clear hp
  rintro e L' s ⟨rfl, ⟨tv4, hv4, hp⟩, hs⟩
  refine Sm.weak _ hs ?_
  clear hs hv3
  have hin4 := hin3.of (q3F_le S r3)
  generalize hR4 : q3F S r3 = y4 at hp hv4 hin4
  obtain ⟨by_, r4⟩ := y4
  simp only at hp hv4 hin4
  -- desc
  refine Sm.seqW ?_
  conv => whnf
  have hl4 := isS_l r4 1 descT
  have hin4' := hin4.of (RS.le.isS r4 1 descT)
  refine is_spec (F := blkA p3 p3 (qc (.slice none 0 0) root by_ S false 0) 6 :: blkA p2 p2 (Qy.zero.cells (.slice none 0 0)) 6 :: onA κ3 vl3 9 r4.l.length (ndC r4.l) :: F) (hp.pik (by repeat (first | exact Pik.nil | exact Pik.refl _ | exact Rm.here | apply Rm.there | apply Pik.cons | apply Pik.skip))) ht hv4 1 descT ?_
  clear hp
  generalize hD : r4.is 1 descT = D
  generalize hR5 : r4.isS 1 descT = r5 at hl4 hin4'
  intro tv5 s hv5 hp
  conv => whnf
  refine hp.store (v := .bool D) (off := 4) (by repeat (first | exact Rm.here | apply Rm.there)) (by show 4 < 6; decide) rfl rfl rfl rfl ?_
  clear hp
  intro s hp _
  rw [← hl4] at hp
  replace hp : Hp X s0 R (blkA p3 p3 (qc (.slice none 0 0) root by_ S D 0) 6 :: blkA p p (rdC tv5 vl3 r5) 4 :: blkA p2 p2 (Qy.zero.cells (.slice none 0 0)) 6 :: onA κ3 vl3 9 r5.l.length (ndC r5.l) :: F) s := hp
  conv => whnf
  refine Sm.live [0, 2, 3] ?_
  conv => whnf
  -- limit
  refine Sm.seqC (fun e L' s' => e = .normal ∧ (∃ tv', TvOk toks tb toff tc tv' (q5F r5).2 ∧ Hp X s0 R (blkA p3 p3 (qc (.slice none 0 0) root by_ S D (q5F r5).1) 6 :: blkA p2 p2 (Qy.zero.cells (.slice none 0 0)) 6 :: RdF p κ3 tv' vl3 (q5F r5).2 F) s') ∧ Sub [(0, .pointer (some ⟨p, 0, none⟩)), (2, .pointer (some ⟨p2, 0, none⟩)), (3, .pointer (some ⟨p3, 0, none⟩))] L') ?_ ?_
  · conv => whnf
    have hl := q5F_l r5
    have hq5 : q5F r5 = if r5.is 1 limitT = false then (0, r5.isS 1 limitT)
      else ((wholeI (r5.isS 1 limitT).numV).1, if (wholeI (r5.isS 1 limitT).numV).2 = false ∧ (r5.isS 1 limitT).numS.bad = false then { (r5.isS 1 limitT).numS with t := (r5.isS 1 limitT).t, bad := true } else (r5.isS 1 limitT).numS) := rfl
    refine is_spec (F := blkA p3 p3 (qc (.slice none 0 0) root by_ S D 0) 6 :: blkA p2 p2 (Qy.zero.cells (.slice none 0 0)) 6 :: onA κ3 vl3 9 r5.l.length (ndC r5.l) :: F) (hp.pik (by repeat (first | exact Pik.nil | exact Pik.refl _ | exact Rm.here | apply Rm.there | apply Pik.cons | apply Pik.skip))) ht hv5 1 limitT ?_
    clear hp
    intro tv6 s hv6 hp
    conv => whnf
    cases hb : r5.is 1 limitT with
    | false =>
      rw [if_pos hb] at hq5
      rw [hq5] at hl ⊢
      repeat (first | (refine Br.yes (by first | with_reducible rfl | with_reducible exact beq_self_eq_true _ | rfl) ?_; conv => whnf) | (refine Br.no (by first | with_reducible rfl | with_reducible exact bne_self_eq_false _ | rfl) ?_; conv => whnf))
      exact ⟨rfl, ⟨tv6, hv6, by unfold RdF; rw [hl]; exact hp.pik (by repeat (first | exact Pik.nil | exact Pik.refl _ | exact Rm.here | apply Rm.there | apply Pik.cons | apply Pik.skip))⟩, subK_ok ⟨rfl, rfl, rfl, trivial⟩⟩
    | true =>
      rw [if_neg (by rw [hb]; decide)] at hq5
      rw [hq5] at hl ⊢
      repeat (first | (refine Br.yes (by first | with_reducible rfl | with_reducible exact beq_self_eq_true _ | rfl) ?_; conv => whnf) | (refine Br.no (by first | with_reducible rfl | with_reducible exact bne_self_eq_false _ | rfl) ?_; conv => whnf))
      generalize r5.isS 1 limitT = ra at *
      refine hp.load (v := tv6) (by repeat (first | exact Has.here | apply Has.there | (apply Has.swap; repeat (first | exact HasR.here | apply HasR.there)))) (by rfl) rfl rfl rfl ?_
      conv => whnf
      refine number_spec hp ht hv6 (htx _ hv6.nx) ?_
      clear hp
      intro tv7 s hv7 hp
      conv => whnf
      refine hp.call (whole_spec hp.wf ra.numV) ?_
      clear hp
      rintro _ s rfl hp _
      conv => whnf
      generalize wholeI ra.numV = W at *
      obtain ⟨w1, w2⟩ := W
      generalize hrb : ra.numS = rb at *
      simp only at hl
      have hl2 : rb.l = r5.l := by
        split at hl
        · exact hl
        · exact hl
      cases w2 with
      | true =>
        repeat (first | (refine Br.yes (by first | with_reducible rfl | with_reducible exact beq_self_eq_true _ | rfl) ?_; conv => whnf) | (refine Br.no (by first | with_reducible rfl | with_reducible exact bne_self_eq_false _ | rfl) ?_; conv => whnf))
        refine hp.store (v := .int .i64 w1) (off := 5) (by repeat (first | exact Rm.here | apply Rm.there)) (by show 5 < 6; decide) rfl rfl rfl rfl ?_
        clear hp
        intro s hp _
        replace hp : Hp X s0 R (blkA p3 p3 (qc (.slice none 0 0) root by_ S D w1) 6 :: blkA p p (rdC tv7 vl3 rb) 4 :: blkA p2 p2 (Qy.zero.cells (.slice none 0 0)) 6 :: onA κ3 vl3 9 r5.l.length (ndC r5.l) :: F) s := hp
        conv => whnf
        rw [if_neg (fun h => by cases h.1)]
        exact ⟨rfl, ⟨tv7, hv7, by unfold RdF; rw [hl2]; exact hp.pik (by repeat (first | exact Pik.nil | exact Pik.refl _ | exact Rm.here | apply Rm.there | apply Pik.cons | apply Pik.skip))⟩, subK_ok ⟨rfl, rfl, rfl, trivial⟩⟩
      | false =>
        repeat (first | (refine Br.yes (by first | with_reducible rfl | with_reducible exact beq_self_eq_true _ | rfl) ?_; conv => whnf) | (refine Br.no (by first | with_reducible rfl | with_reducible exact bne_self_eq_false _ | rfl) ?_; conv => whnf))
        refine hp.load (v := .bool rb.bad) (by repeat (first | exact Has.here | apply Has.there | (apply Has.swap; repeat (first | exact HasR.here | apply HasR.there)))) (by rfl) rfl rfl rfl ?_
        conv => whnf
        cases hbb : rb.bad with
        | true =>
          repeat (first | (refine Br.yes (by first | with_reducible rfl | with_reducible exact beq_self_eq_true _ | rfl) ?_; conv => whnf) | (refine Br.no (by first | with_reducible rfl | with_reducible exact bne_self_eq_false _ | rfl) ?_; conv => whnf))
          refine hp.store (v := .int .i64 w1) (off := 5) (by repeat (first | exact Rm.here | apply Rm.there)) (by show 5 < 6; decide) rfl rfl rfl rfl ?_
          clear hp
          intro s hp _
          replace hp : Hp X s0 R (blkA p3 p3 (qc (.slice none 0 0) root by_ S D w1) 6 :: blkA p p (rdC tv7 vl3 rb) 4 :: blkA p2 p2 (Qy.zero.cells (.slice none 0 0)) 6 :: onA κ3 vl3 9 r5.l.length (ndC r5.l) :: F) s := hp
          conv => whnf
          rw [if_neg (fun h => by cases h.2)]
          exact ⟨rfl, ⟨tv7, hv7, by unfold RdF; rw [hl2]; exact hp.pik (by repeat (first | exact Pik.nil | exact Pik.refl _ | exact Rm.here | apply Rm.there | apply Pik.cons | apply Pik.skip))⟩, subK_ok ⟨rfl, rfl, rfl, trivial⟩⟩
        | false =>
          repeat (first | (refine Br.yes (by first | with_reducible rfl | with_reducible exact beq_self_eq_true _ | rfl) ?_; conv => whnf) | (refine Br.no (by first | with_reducible rfl | with_reducible exact bne_self_eq_false _ | rfl) ?_; conv => whnf))
          have hvb : TvOk toks tb toff tc tv6 { rb with t := ra.t, bad := true } := hv6.same rfl
          obtain ⟨j6, -, -, rfl⟩ := hv6.ex
          refine hp.store (v := .slice (some ⟨tb, toff + j6 * 3, none⟩) (toks.length - j6) (tc - j6)) (off := 0) (by repeat (first | exact Rm.here | apply Rm.there)) (by show 0 < 4; decide) rfl rfl rfl rfl ?_
          clear hp
          intro s hp _
          conv => whnf
          refine hp.store (v := .bool true) (off := 3) (by repeat (first | exact Rm.here | apply Rm.there)) (by show 3 < 4; decide) rfl rfl rfl rfl ?_
          clear hp
          intro s hp _
          replace hp : Hp X s0 R (blkA p p (rdC (.slice (some ⟨tb, toff + j6 * 3, none⟩) (toks.length - j6) (tc - j6)) vl3 { rb with t := ra.t, bad := true }) 4 :: blkA p3 p3 (qc (.slice none 0 0) root by_ S D 0) 6 :: blkA p2 p2 (Qy.zero.cells (.slice none 0 0)) 6 :: onA κ3 vl3 9 r5.l.length (ndC r5.l) :: F) s := hp.pik (by repeat (first | exact Pik.nil | exact Pik.refl _ | exact Rm.here | apply Rm.there | apply Pik.cons | apply Pik.skip))
          conv => whnf
          refine hp.store (v := .int .i64 w1) (off := 5) (by repeat (first | exact Rm.here | apply Rm.there)) (by show 5 < 6; decide) rfl rfl rfl rfl ?_
          clear hp
          intro s hp _
          replace hp : Hp X s0 R (blkA p3 p3 (qc (.slice none 0 0) root by_ S D w1) 6 :: blkA p p (rdC (.slice (some ⟨tb, toff + j6 * 3, none⟩) (toks.length - j6) (tc - j6)) vl3 { rb with t := ra.t, bad := true }) 4 :: blkA p2 p2 (Qy.zero.cells (.slice none 0 0)) 6 :: onA κ3 vl3 9 r5.l.length (ndC r5.l) :: F) s := hp
          conv => whnf
          rw [if_pos ⟨rfl, rfl⟩]
          exact ⟨rfl, ⟨_, hvb, by unfold RdF; rw [show ({ rb with t := ra.t, bad := true } : RS).l = r5.l from hl2]; exact hp.pik (by repeat (first | exact Pik.nil | exact Pik.refl _ | exact Rm.here | apply Rm.there | apply Pik.cons | apply Pik.skip))⟩, subK_ok ⟨rfl, rfl, rfl, trivial⟩⟩
  clear hp
  rintro e L' s ⟨rfl, ⟨tv6, hv6, hp⟩, hs⟩
  refine Sm.weak _ hs ?_
  clear hs hv5
  have hin6 := hin4'.of (q5F_le r5)
  generalize hR6 : q5F r5 = y6 at hp hv6 hin6
  obtain ⟨limit, r6⟩ := y6
  simp only at hp hv6 hin6
  -- the end
  refine Sm.seqC (fun e L' s' => e = .normal ∧ Hp X s0 R (blkA p3 p3 (qc (.slice none 0 0) root by_ S D limit) 6 :: blkA p2 p2 (Qy.zero.cells (.slice none 0 0)) 6 :: RdF p κ3 tv6 vl3 (q6F r6) F) s' ∧ Sub [(0, .pointer (some ⟨p, 0, none⟩)), (2, .pointer (some ⟨p2, 0, none⟩)), (3, .pointer (some ⟨p3, 0, none⟩))] L') ?_ ?_
  · conv => whnf
    have hq6 : q6F r6 = if r6.bad = false ∧ r6.nx.kind ≠ 4 then r6.fail else r6 := rfl
    refine hp.load (v := .bool r6.bad) (by repeat (first | exact Has.here | apply Has.there | (apply Has.swap; repeat (first | exact HasR.here | apply HasR.there)))) (by rfl) rfl rfl rfl ?_
    conv => whnf
    cases hb : r6.bad with
    | true =>
      rw [if_neg (fun h => by rw [hb] at h; cases h.1)] at hq6
      rw [hq6]
      repeat (first | (refine Br.yes (by first | with_reducible rfl | with_reducible exact beq_self_eq_true _ | rfl) ?_; conv => whnf) | (refine Br.no (by first | with_reducible rfl | with_reducible exact bne_self_eq_false _ | rfl) ?_; conv => whnf))
      exact ⟨rfl, hp.pik (by repeat (first | exact Pik.nil | exact Pik.refl _ | exact Rm.here | apply Rm.there | apply Pik.cons | apply Pik.skip)), subK_ok ⟨rfl, rfl, rfl, trivial⟩⟩
    | false =>
      repeat (first | (refine Br.yes (by first | with_reducible rfl | with_reducible exact beq_self_eq_true _ | rfl) ?_; conv => whnf) | (refine Br.no (by first | with_reducible rfl | with_reducible exact bne_self_eq_false _ | rfl) ?_; conv => whnf))
      refine hp.call (next_spec hp.wf (hp.blk (by repeat (first | exact Has.here | apply Has.there | (apply Has.swap; repeat (first | exact HasR.here | apply HasR.there))))) (hp.slR ht) hv6) ?_
      clear hp
      rintro _ s rfl hp _
      conv => whnf
      by_cases hk : r6.nx.kind = 4
      · have q : (r6.nx.kind != 4) = false := by simp [hk]
        rw [if_neg (fun h => h.2 hk)] at hq6
        rw [hq6]
        repeat (first | (refine Br.no q ?_; conv => whnf) | (first | (refine Br.yes (by first | with_reducible rfl | with_reducible exact beq_self_eq_true _ | rfl) ?_; conv => whnf) | (refine Br.no (by first | with_reducible rfl | with_reducible exact bne_self_eq_false _ | rfl) ?_; conv => whnf)))
        exact ⟨rfl, hp.pik (by repeat (first | exact Pik.nil | exact Pik.refl _ | exact Rm.here | apply Rm.there | apply Pik.cons | apply Pik.skip)), subK_ok ⟨rfl, rfl, rfl, trivial⟩⟩
      · have q : (r6.nx.kind != 4) = true := by simp [hk]
        rw [if_pos ⟨hb, hk⟩] at hq6
        rw [hq6]
        repeat (first | (refine Br.yes q ?_; conv => whnf) | (first | (refine Br.yes (by first | with_reducible rfl | with_reducible exact beq_self_eq_true _ | rfl) ?_; conv => whnf) | (refine Br.no (by first | with_reducible rfl | with_reducible exact bne_self_eq_false _ | rfl) ?_; conv => whnf)))
        refine fail_spec (F := blkA p3 p3 (qc (.slice none 0 0) root by_ S D limit) 6 :: blkA p2 p2 (Qy.zero.cells (.slice none 0 0)) 6 :: onA κ3 vl3 9 r6.l.length (ndC r6.l) :: F) (hp.pik (by repeat (first | exact Pik.nil | exact Pik.refl _ | exact Rm.here | apply Rm.there | apply Pik.cons | apply Pik.skip))) ?_
        clear hp
        intro s hp
        conv => whnf
        exact ⟨rfl, hp.pik (by repeat (first | exact Pik.nil | exact Pik.refl _ | exact Rm.here | apply Rm.there | apply Pik.cons | apply Pik.skip)), subK_ok ⟨rfl, rfl, rfl, trivial⟩⟩
  clear hp
  rintro e L' s ⟨rfl, hp, hs⟩
  refine Sm.weak _ hs ?_
  clear hs
  have hqf : queryF r = (⟨(q6F r6).l, root, by_, S, D, limit⟩, q6F r6) := by
    unfold queryF
    simp only [hS, hR2, hR3, hR4, hD, hR5, hR6]
  rw [hqf] at hK
  have hv7 : TvOk toks tb toff tc tv6 (q6F r6) := hv6.same (by unfold q6F; split <;> rfl)
  generalize q6F r6 = r7 at *
  obtain ⟨al, cl, rfl⟩ := (hp.slF (κ := κ3) (v := vl3) (by repeat (first | exact Rm.here | apply Rm.there))).shape
  refine Sm.seqW ?_
  conv => whnf
  refine hp.load (v := .slice al r7.l.length cl) (by repeat (first | exact Has.here | apply Has.there | (apply Has.swap; repeat (first | exact HasR.here | apply HasR.there)))) (by rfl) rfl rfl rfl ?_
  conv => whnf
  refine hp.store (v := .slice al r7.l.length cl) (off := 0) (by repeat (first | exact Rm.here | apply Rm.there)) (by show 0 < 6; decide) rfl rfl rfl rfl ?_
  clear hp
  intro s hp _
  replace hp : Hp X s0 R (blkA p3 p3 (qc (.slice al r7.l.length cl) root by_ S D limit) 6 :: blkA p2 p2 (Qy.zero.cells (.slice none 0 0)) 6 :: RdF p κ3 tv6 (.slice al r7.l.length cl) r7 F) s := hp
  conv => whnf
  refine Sm.live [2, 3] ?_
  conv => whnf
  refine Sm.seqW ?_
  conv => whnf
  refine hp.loadA (l := qc (.slice al r7.l.length cl) root by_ S D limit) (by repeat (first | exact Has.here | apply Has.there | (apply Has.swap; repeat (first | exact HasR.here | apply HasR.there)))) rfl (by rfl) rfl rfl ?_
  conv => whnf
  refine hp.storeW (vs := qc (.slice al r7.l.length cl) root by_ S D limit) (C := Qy.zero.cells (.slice none 0 0)) rfl (by repeat (first | exact Rm.here | apply Rm.there)) (by rfl) rfl rfl rfl ?_
  clear hp
  intro s hp _
  conv => whnf
  refine Sm.live [2] ?_
  conv => whnf
  refine Sm.ofW ?_
  conv => whnf
  refine hp.loadA (l := qc (.slice al r7.l.length cl) root by_ S D limit) (by repeat (first | exact Has.here | apply Has.there | (apply Has.swap; repeat (first | exact HasR.here | apply HasR.there)))) rfl (by rfl) rfl rfl ?_
  conv => whnf
  exact ⟨hK _ _ _ _ hv7 (hp.pik (by repeat (first | exact Pik.nil | exact Pik.refl _ | exact Rm.here | apply Rm.there | apply Pik.cons | apply Pik.skip)))⟩
end
end Go.Ev
end

/- parse.Read walked. No condition. -/
noncomputable section
namespace Go.Ev
open Go.Proofs
variable [Lk]
set_option linter.unusedSectionVars false
set_option linter.unusedVariables false
set_option maxRecDepth 100000

/-- What a text is read as: a query, a place, an error. -/
def readQ (s : List UInt8) : Qy × Nat × Int := match tokR s with
  | .inr k => (Qy.zero, k, 2)
  | .inl ts => if (queryF ⟨ts, [], 0, false⟩).2.bad = true then (Qy.zero, (queryF ⟨ts, [], 0, false⟩).2.nx.at_, 2) else ((queryF ⟨ts, [], 0, false⟩).1, 0, 0)
theorem TvOk.start {toks : List Tok} {tb toff tc : Nat} (h : toks ≠ []) : TvOk toks tb toff tc (.slice (some ⟨tb, toff, none⟩) toks.length tc) ⟨toks, [], 0, false⟩ :=
  ⟨0, List.length_pos_iff.2 h, rfl, by simp⟩
theorem qread_spec {z : St} (wf : WF z) (l : List UInt8) : Cw Tryz.prog 18 [sv l] z fun v s' => K0 z s' ∧ ∃ w, v = .tuple #[(readQ l).1.val w, .int .i64 ((readQ l).2.1 : Int), .int .i64 (readQ l).2.2] ∧ OwnN z.next s' w 9 (readQ l).1.nodes.length (ndC (readQ l).1.nodes) := by
  have hp : Hp (fun _ => False) z [] [] z := Hp.start _ wf _ (by simp)
  refine Cw.enterS Tryz.func18 rfl rfl ?_
  refine Sm.seqW ?_
  conv => whnf
  refine hp.alloc (cs := (Qy.zero.cells (.slice none 0 0))) (e := 6) rfl rfl rfl rfl rfl ?_
  clear hp
  intro p2 s hp _
  conv => whnf
  refine Sm.live [0, 2] ?_
  conv => whnf
  refine Sm.seqW ?_
  conv => whnf
  refine hp.call (xtokens_spec hp.wf l) ?_
  intro v0 s ha hp1 k1
  have hR : readQ l = match tokR l with
    | .inr k => (Qy.zero, k, 2)
    | .inl ts => if (queryF ⟨ts, [], 0, false⟩).2.bad = true then (Qy.zero, (queryF ⟨ts, [], 0, false⟩).2.nx.at_, 2) else ((queryF ⟨ts, [], 0, false⟩).1, 0, 0) := rfl
  cases htk : tokR l with
  | inr k =>
    rw [htk] at ha hR
    simp only at hR
    obtain rfl : v0 = .tuple #[.slice none 0 0, .int .i64 (k : Int), .int .i64 2] := ha
    clear hp
    have hp := hp1
    clear hp1 k1
    conv => whnf
    refine Sm.live [2, 5, 6, 7] ?_
    conv => whnf
    refine Sm.seq ?_
    refine Sm.seqW ?_
    conv => whnf
    refine Sm.live [2, 5, 6, 7, 17] ?_
    conv => whnf
    refine Sm.ofW ?_
    conv => whnf
    refine Br.yes rfl ?_
    conv => whnf
    refine hp.storeW (vs := Qy.zero.cells (.slice none 0 0)) (C := Qy.zero.cells (.slice none 0 0)) rfl (by repeat (first | exact Rm.here | apply Rm.there)) (by rfl) rfl rfl rfl ?_
    clear hp
    intro s hp _
    conv => whnf
    refine hp.loadA (l := Qy.zero.cells (.slice none 0 0)) (by repeat (first | exact Has.here | apply Has.there | (apply Has.swap; repeat (first | exact HasR.here | apply HasR.there)))) rfl (by rfl) rfl rfl ?_
    conv => whnf
    rw [hR]
    exact ⟨hp.fr, _, rfl, ⟨.inl ⟨rfl, rfl, rfl⟩⟩⟩
  | inl ts =>
    rw [htk] at ha hR
    simp only at hR
    obtain ⟨hne, hl4, htx⟩ := tokR_small htk
    obtain ⟨w, rfl, how⟩ := ha
    obtain ⟨κt, hp⟩ := hp.on k1 how
    clear hp1 k1 how
    have hsl := hp.slF (κ := κt) (v := w) (by repeat (first | exact Rm.here | apply Rm.there))
    have hw : ∃ tb toff tc, w = .slice (some ⟨tb, toff, none⟩) ts.length tc := by
      rcases hsl.ex with ⟨-, h0, -⟩ | ⟨b, off, c, C, rfl, -⟩
      · exact absurd (List.length_eq_zero_iff.1 h0) hne
      · exact ⟨b, off, c, rfl⟩
    clear hsl
    obtain ⟨tb, toff, tc, rfl⟩ := hw
    replace hp := hp.iceO (κ := κt) (v := .slice (some ⟨tb, toff, none⟩) ts.length tc) (by repeat (first | exact Rm.here | apply Rm.there))
    conv => whnf
    refine Sm.live [2, 5, 6, 7] ?_
    conv => whnf
    refine Sm.seq ?_
    refine Sm.seqW ?_
    conv => whnf
    refine Sm.live [2, 5, 6, 7, 17] ?_
    conv => whnf
    refine Sm.ofW ?_
    conv => whnf
    refine Br.no rfl ?_
    conv => whnf
    refine Sm.seqW ?_
    conv => whnf
    refine hp.var (cs := rdC (.slice (some ⟨tb, toff, none⟩) ts.length tc) (.slice none 0 0) ⟨ts, [], 0, false⟩) (e := 4) rfl rfl ?_
    clear hp
    intro p23 s hp _
    conv => whnf
    refine Sm.live [2, 8] ?_
    conv => whnf
    refine Sm.seqW ?_
    conv => whnf
    refine query_spec (κ := none) (F := [blkA p2 p2 (Qy.zero.cells (.slice none 0 0)) 6]) ((hp.push (a := onA none (.slice none 0 0) 9 0 []) (.refl hp.wf) ⟨.inl ⟨rfl, rfl, rfl, rfl⟩⟩ fun j hj => by cases hj).pik (by repeat (first | exact Pik.nil | exact Pik.refl _ | exact Rm.here | apply Rm.there | apply Pik.cons | apply Pik.skip))) .here (.start hne) ⟨Nat.zero_le _, Nat.zero_le _⟩ htx ?_
    clear hp
    intro tv vl κ s hv hp
    have hql : (queryF ⟨ts, [], 0, false⟩).1.nodes = (queryF ⟨ts, [], 0, false⟩).2.l := rfl
    generalize queryF ⟨ts, [], 0, false⟩ = y at hv hp hql hR ⊢
    obtain ⟨q, r⟩ := y
    simp only at hv hp hql hR ⊢
    have hv1 : (q.val vl) = (.agg #[vl, .int .i64 q.root, .int .i64 q.by_, .bool q.sum, .bool q.desc, .int .i64 q.limit]) := rfl
    obtain ⟨al, cl, rfl⟩ := (hp.slF (κ := κ) (v := vl) (by repeat (first | exact Rm.here | apply Rm.there))).shape
    conv => whnf
    refine hp.alloc (cs := (Qy.zero.cells (.slice none 0 0))) (e := 6) rfl rfl rfl rfl rfl ?_
    clear hp
    intro p9 s hp _
    conv => whnf
    refine hp.storeW (vs := q.cells (.slice al r.l.length cl)) (C := Qy.zero.cells (.slice none 0 0)) rfl (by repeat (first | exact Rm.here | apply Rm.there)) (by rfl) rfl rfl rfl ?_
    clear hp
    intro s hp _
    conv => whnf
    refine Sm.live [2, 8, 9] ?_
    conv => whnf
    refine Sm.seq ?_
    refine Sm.seqW ?_
    conv => whnf
    refine hp.load (v := .bool r.bad) (by repeat (first | exact Has.here | apply Has.there | (apply Has.swap; repeat (first | exact HasR.here | apply HasR.there)))) (by rfl) rfl rfl rfl ?_
    conv => whnf
    refine Sm.live [2, 8, 9, 29] ?_
    conv => whnf
    refine Sm.ofW ?_
    conv => whnf
    cases hb : r.bad with
    | true =>
      rw [if_pos hb] at hR
      refine Br.yes rfl ?_
      conv => whnf
      refine hp.call (next_spec hp.wf (hp.blk (by repeat (first | exact Has.here | apply Has.there | (apply Has.swap; repeat (first | exact HasR.here | apply HasR.there))))) (hp.slR .here) hv) ?_
      clear hp
      rintro _ s rfl hp _
      conv => whnf
      refine hp.storeW (vs := Qy.zero.cells (.slice none 0 0)) (C := Qy.zero.cells (.slice none 0 0)) rfl (by repeat (first | exact Rm.here | apply Rm.there)) (by rfl) rfl rfl rfl ?_
      clear hp
      intro s hp _
      conv => whnf
      refine hp.loadA (l := Qy.zero.cells (.slice none 0 0)) (by repeat (first | exact Has.here | apply Has.there | (apply Has.swap; repeat (first | exact HasR.here | apply HasR.there)))) rfl (by rfl) rfl rfl ?_
      conv => whnf
      rw [hR]
      exact ⟨hp.fr, _, rfl, ⟨.inl ⟨rfl, rfl, rfl⟩⟩⟩
    | false =>
      rw [if_neg (by rw [hb]; decide)] at hR
      refine Br.no rfl ?_
      conv => whnf
      refine Sm.seqW ?_
      conv => whnf
      refine hp.loadA (l := q.cells (.slice al r.l.length cl)) (by repeat (first | exact Has.here | apply Has.there | (apply Has.swap; repeat (first | exact HasR.here | apply HasR.there)))) rfl (by rfl) rfl rfl ?_
      conv => whnf
      refine hp.storeW (vs := q.cells (.slice al r.l.length cl)) (C := Qy.zero.cells (.slice none 0 0)) rfl (by repeat (first | exact Rm.here | apply Rm.there)) (by rfl) rfl rfl rfl ?_
      clear hp
      intro s hp _
      conv => whnf
      refine Sm.live [2, 3, 4] ?_
      conv => whnf
      refine Sm.ofW ?_
      conv => whnf
      refine hp.loadA (l := q.cells (.slice al r.l.length cl)) (by repeat (first | exact Has.here | apply Has.there | (apply Has.swap; repeat (first | exact HasR.here | apply HasR.there)))) rfl (by rfl) rfl rfl ?_
      conv => whnf
      rw [hR]
      refine ⟨hp.fr, .slice al r.l.length cl, rfl, ?_⟩
      simp only
      rw [hql]
      exact hp.out (by repeat (first | exact Rm.here | apply Rm.there))
end Go.Ev
end

/- Conditions of raw numbers: the laws' texts. No condition. -/
noncomputable section
namespace Go.Ev
open Go.Proofs
variable [Lk]
set_option linter.unusedSectionVars false
set_option linter.unusedVariables false
set_option maxRecDepth 100000

theorem qv_add {P : Program} {t : TypeId} {c : Bool} (a b : List UInt8) (h : a.length + b.length ≤ 281474976710656) : evBin P .add t c (sv a) (sv b) = some (sv (a ++ b)) := str_add _ _ h
def wordL : List (List UInt8) := [[101, 110, 116, 105, 116, 121], [97, 99, 99, 111, 117, 110, 116], [112, 101, 114, 105, 111, 100], [119, 105, 116, 104], [97, 109, 111, 117, 110, 116]]
def signL : List (List UInt8) := [[61], [60], [62]]
def numL : List (List UInt8) := [[48], [49], [50], [45, 49], [57], [49, 48, 48, 46, 53, 48], [45, 53, 48, 48, 48]]
def wordV : Value := .agg #[sv [101, 110, 116, 105, 116, 121], sv [97, 99, 99, 111, 117, 110, 116], sv [112, 101, 114, 105, 111, 100], sv [119, 105, 116, 104], sv [97, 109, 111, 117, 110, 116]]
def signV : Value := .agg #[sv [61], sv [60], sv [62]]
def numV : Value := .agg #[sv [48], sv [49], sv [50], sv [45, 49], sv [57], sv [49, 48, 48, 46, 53, 48], sv [45, 53, 48, 48, 48]]
theorem wordV_at {i : Nat} (h : i < 5) : evIndex Tryz.prog 117 wordV (.int .i64 (i : Int)) = some (sv (wordL.getD i [])) := by
  match i, h with
  | 0, _ => rfl
  | 1, _ => rfl
  | 2, _ => rfl
  | 3, _ => rfl
  | 4, _ => rfl
theorem signV_at {i : Nat} (h : i < 3) : evIndex Tryz.prog 76 signV (.int .i64 (i : Int)) = some (sv (signL.getD i [])) := by
  match i, h with
  | 0, _ => rfl
  | 1, _ => rfl
  | 2, _ => rfl
theorem numV_at {i : Nat} (h : i < 7) : evIndex Tryz.prog 118 numV (.int .i64 (i : Int)) = some (sv (numL.getD i [])) := by
  match i, h with
  | 0, _ => rfl
  | 1, _ => rfl
  | 2, _ => rfl
  | 3, _ => rfl
  | 4, _ => rfl
  | 5, _ => rfl
  | 6, _ => rfl
theorem wordL_len : ∀ i, i < 5 → (wordL.getD i []).length ≤ 7 := by decide +kernel
theorem signL_len : ∀ i, i < 3 → (signL.getD i []).length ≤ 1 := by decide +kernel
theorem numL_len : ∀ i, i < 7 → (numL.getD i []).length ≤ 6 := by decide +kernel
def dfltT : List UInt8 := [97, 99, 99, 111, 117, 110, 116, 32, 61, 32, 51]
def leafT (x : Int) : List UInt8 := wordL.getD (x.tdiv 12 % 5).toNat [] ++ [32] ++ signL.getD (x.tdiv 60 % 3).toNat [] ++ [32] ++ numL.getD (x.tdiv 180 % 7).toNat []
/-- A condition of raw numbers, from a place on, so deep at most; where it ends. -/
def condT (l : List Int) : Nat → Nat → List UInt8 × Nat
  | 0, i => (dfltT, i)
  | n + 1, i => if h : i < l.length then
      (if l[i] % 12 < 2 then ((condT l n (i + 1)).1 ++ [32, 97, 110, 100, 32] ++ (condT l n (condT l n (i + 1)).2).1, (condT l n (condT l n (i + 1)).2).2)
      else if l[i] % 12 < 4 then ((condT l n (i + 1)).1 ++ [32, 111, 114, 32] ++ (condT l n (condT l n (i + 1)).2).1, (condT l n (condT l n (i + 1)).2).2)
      else if l[i] % 12 < 6 then ([110, 111, 116, 32] ++ (condT l n (i + 1)).1, (condT l n (i + 1)).2)
      else if l[i] % 12 < 8 then ([40, 32] ++ (condT l n (i + 1)).1 ++ [32, 41], (condT l n (i + 1)).2)
      else (leafT l[i], i + 1))
    else (dfltT, i)
theorem leafT_len (x : Int) : (leafT x).length ≤ 16 := by
  have h1 := wordL_len (x.tdiv 12 % 5).toNat (by omega)
  have h2 := signL_len (x.tdiv 60 % 3).toNat (by omega)
  have h3 := numL_len (x.tdiv 180 % 7).toNat (by omega)
  unfold leafT
  simp only [List.length_append, List.length_singleton]
  omega
theorem condT_ok (l : List Int) : ∀ (n i : Nat), i ≤ l.length → (condT l n i).1.length + 5 ≤ 25 * 2 ^ n ∧ i ≤ (condT l n i).2 ∧ (condT l n i).2 ≤ l.length
  | 0, i, h => ⟨by show dfltT.length + 5 ≤ _; decide, Nat.le_refl _, h⟩
  | n + 1, i, h => by
    have hp : 25 * 2 ^ (n + 1) = 2 * (25 * 2 ^ n) := by rw [Nat.pow_succ]; omega
    have hp1 : 1 ≤ 2 ^ n := Nat.pow_pos (by decide)
    unfold condT
    split
    · rename_i hi
      obtain ⟨a1, a2, a3⟩ := condT_ok l n (i + 1) (by omega)
      obtain ⟨b1, b2, b3⟩ := condT_ok l n (condT l n (i + 1)).2 a3
      have hl := leafT_len l[i]
      rw [hp]
      generalize 25 * 2 ^ n = P at *
      split
      · refine ⟨?_, by omega, by omega⟩
        simp only [List.length_append, List.length_cons, List.length_nil]; omega
      · split
        · refine ⟨?_, by omega, by omega⟩
          simp only [List.length_append, List.length_cons, List.length_nil]; omega
        · split
          · refine ⟨?_, by omega, by omega⟩
            simp only [List.length_append, List.length_cons, List.length_nil]; omega
          · split
            · refine ⟨?_, by omega, by omega⟩
              simp only [List.length_append, List.length_cons, List.length_nil]; omega
            · exact ⟨by show (leafT l[i]).length + 5 ≤ _; omega, by show i ≤ i + 1; omega, by show i + 1 ≤ l.length; omega⟩
    · refine ⟨?_, Nat.le_refl _, h⟩
      have : dfltT.length = 11 := rfl
      simp only [this]; omega
theorem cond23_spec {s : St} (wf : WF s) {κ : Option Nat} {v : Value} {z : List Int} (hv : Sl s κ v 1 z.length (z.map (Value.int .i64))) (hz : ∀ n ∈ z, inR n) (hzl : z.length ≤ 140737488351232) :
    ∀ (n i : Nat), n ≤ 10 → i ≤ z.length → Cw Tryz.prog 22 [v, .int .i64 (i : Int), .int .i64 (10 - (n : Int))] s fun r s' => s' = s ∧ r = .tuple #[sv (condT z n i).1, .int .i64 ((condT z n i).2 : Int)] := by
  obtain ⟨a, c, rfl⟩ := hv.shape
  have hp : Hp (fun _ => False) s [] [] s := Hp.start _ wf _ (by simp)
  intro n
  induction n with
  | zero =>
    intro i hn hi
    refine Cw.enterS Tryz.func22 rfl rfl ?_
    refine Sm.seqW ?_
    conv => whnf
    refine Sm.live [0, 1, 2] ?_
    conv => whnf
    refine Sm.seq ?_
    by_cases h : i < z.length
    · have w1 : decide ((i : Int) ≥ (z.length : Int)) = false := decide_eq_false (by omega)
      refine Sm.seqC (fun e L' s' => e = .normal ∧ s' = s ∧ Sub [(0, .slice a z.length c), (1, .int .i64 (i : Int)), (29, .bool true)] L') ?_ ?_
      · conv => whnf
        repeat (first | (refine Br.no w1 ?_; conv => whnf) | (first | (refine Br.yes (by first | with_reducible rfl | with_reducible exact beq_self_eq_true _ | rfl) ?_; conv => whnf) | (refine Br.no (by first | with_reducible rfl | with_reducible exact bne_self_eq_false _ | rfl) ?_; conv => whnf)))
        exact ⟨rfl, rfl, subK_ok ⟨rfl, rfl, rfl, trivial⟩⟩
      rintro e L' s' ⟨rfl, rfl, hs⟩
      refine Sm.weak _ hs ?_
      clear hs
      refine Sm.ofW ?_
      conv => whnf
      refine Br.yes rfl ?_
      conv => whnf
      exact ⟨rfl, rfl⟩
    · have w1 : decide ((i : Int) ≥ (z.length : Int)) = true := decide_eq_true (by omega)
      refine Sm.seqC (fun e L' s' => e = .normal ∧ s' = s ∧ Sub [(0, .slice a z.length c), (1, .int .i64 (i : Int)), (29, .bool true)] L') ?_ ?_
      · conv => whnf
        repeat (first | (refine Br.yes w1 ?_; conv => whnf) | (first | (refine Br.yes (by first | with_reducible rfl | with_reducible exact beq_self_eq_true _ | rfl) ?_; conv => whnf) | (refine Br.no (by first | with_reducible rfl | with_reducible exact bne_self_eq_false _ | rfl) ?_; conv => whnf)))
        exact ⟨rfl, rfl, subK_ok ⟨rfl, rfl, by first | rfl | exact congrArg (fun x => some (Value.bool x)) w1, trivial⟩⟩
      rintro e L' s' ⟨rfl, rfl, hs⟩
      refine Sm.weak _ hs ?_
      clear hs
      refine Sm.ofW ?_
      conv => whnf
      refine Br.yes rfl ?_
      conv => whnf
      exact ⟨rfl, rfl⟩
  | succ n ih =>
    intro i hn hi
    have hpow : 25 * 2 ^ n ≤ 25 * 2 ^ 9 := Nat.mul_le_mul_left _ (Nat.pow_le_pow_right (by decide) (by omega))
    have h29 : 25 * 2 ^ 9 = 12800 := by decide
    have hct : condT z (n + 1) i = if h : i < z.length then
      (if z[i] % 12 < 2 then ((condT z n (i + 1)).1 ++ [32, 97, 110, 100, 32] ++ (condT z n (condT z n (i + 1)).2).1, (condT z n (condT z n (i + 1)).2).2)
      else if z[i] % 12 < 4 then ((condT z n (i + 1)).1 ++ [32, 111, 114, 32] ++ (condT z n (condT z n (i + 1)).2).1, (condT z n (condT z n (i + 1)).2).2)
      else if z[i] % 12 < 6 then ([110, 111, 116, 32] ++ (condT z n (i + 1)).1, (condT z n (i + 1)).2)
      else if z[i] % 12 < 8 then ([40, 32] ++ (condT z n (i + 1)).1 ++ [32, 41], (condT z n (i + 1)).2)
      else (leafT z[i], i + 1))
    else (dfltT, i) := rfl
    have w2 : decide ((10 : Int) - ((n + 1 : Nat) : Int) > 9) = false := decide_eq_false (by omega)
    refine Cw.enterS Tryz.func22 rfl rfl ?_
    refine Sm.seqW ?_
    conv => whnf
    refine Sm.live [0, 1, 2] ?_
    conv => whnf
    refine Sm.seq ?_
    by_cases h : i < z.length
    · have w1 : decide ((i : Int) ≥ (z.length : Int)) = false := decide_eq_false (by omega)
      rw [dif_pos h] at hct
      refine Sm.seqC (fun e L' s' => e = .normal ∧ s' = s ∧ Sub [(0, .slice a z.length c), (1, .int .i64 (i : Int)), (2, .int .i64 (10 - ((n + 1 : Nat) : Int))), (29, .bool false)] L') ?_ ?_
      · conv => whnf
        repeat (first | (refine Br.no w1 ?_; conv => whnf) | (refine Br.no w2 ?_; conv => whnf) | (first | (refine Br.yes (by first | with_reducible rfl | with_reducible exact beq_self_eq_true _ | rfl) ?_; conv => whnf) | (refine Br.no (by first | with_reducible rfl | with_reducible exact bne_self_eq_false _ | rfl) ?_; conv => whnf)))
        exact ⟨rfl, rfl, subK_ok ⟨rfl, rfl, rfl, by first | rfl | exact congrArg (fun x => some (Value.bool x)) w2, trivial⟩⟩
      rintro e L' s' ⟨rfl, h1, hs⟩
      obtain rfl := h1.symm
      refine Sm.weak _ hs ?_
      clear hs
      refine Sm.ofW ?_
      conv => whnf
      refine Br.no rfl ?_
      conv => whnf
      refine Sm.seqW ?_
      conv => whnf
      obtain ⟨p, y, e1, e2, e3, _, rfl⟩ := index_sl IL Tryz.underlying3 rfl hv .i64 h
      obtain rfl : y = .int .i64 z[i] := by simp [h] at e2; exact e2.symm
      have hzi := hz z[i] (List.getElem_mem h)
      refine Om.of _ (e1) ?_
      conv => whnf
      refine Om.of _ (e3) ?_
      conv => whnf
      clear e1 e2 e3
      generalize z[i] = x at hct hzi
      refine Sm.live [0, 1, 2, 8] ?_
      conv => whnf
      refine Sm.seqW ?_
      conv => whnf
      have ei : IntKind.i64.wrap ((i : Int) + 1) = ((i + 1 : Nat) : Int) := by rw [wi64 (by omega) (by omega)]; omega
      have ed : IntKind.i64.wrap (10 - ((n + 1 : Nat) : Int) + 1) = 10 - (n : Int) := by rw [wi64 (by omega) (by omega)]; omega
      rw [ei]
      refine Sm.live [0, 1, 2, 8] ?_
      conv => whnf
      obtain ⟨c1, c2, c3⟩ := condT_ok z n (i + 1) (by omega)
      obtain ⟨d1, d2, d3⟩ := condT_ok z n (condT z n (i + 1)).2 c3
      have ih1 := ih (i + 1) (by omega) (by omega)
      have ih2 := ih (condT z n (i + 1)).2 (by omega) c3
      generalize condT z n (i + 1) = A at *
      generalize condT z n A.2 = B at *
      obtain ⟨A1, A2⟩ := A
      obtain ⟨B1, B2⟩ := B
      simp only at *
      have k1 := Int.emod_nonneg x (show (12 : Int) ≠ 0 by decide)
      have k2 := Int.emod_lt_of_pos x (show (0 : Int) < 12 by decide)
      refine Sm.seq ?_
      refine Sm.seqW ?_
      conv => whnf
      refine (pick_spec _ hzi (m := 12) (by decide) (by decide)).mono ?_
      rintro _ s1 ⟨h1, rfl⟩
      obtain rfl := h1.symm
      conv => whnf
      refine Sm.live [0, 1, 2, 8, 9] ?_
      conv => whnf
      refine Sm.block ?_
      refine Sm.seqW ?_
      conv => whnf
      refine Sm.live [0, 1, 2, 8, 9, 39] ?_
      conv => whnf
      refine Sm.ofW ?_
      conv => whnf
      by_cases g1 : x % 12 < 2
      · rw [if_pos g1] at hct
        refine Br.yes (decide_eq_true g1) ?_
        conv => whnf
        rw [ed]
        refine (ih1).mono ?_
        rintro _ s1 ⟨h1, rfl⟩
        obtain rfl := h1.symm
        conv => whnf
        conv => whnf
        rw [ed]
        refine (ih2).mono ?_
        rintro _ s1 ⟨h1, rfl⟩
        obtain rfl := h1.symm
        conv => whnf
        conv => whnf
        refine Om.of _ (qv_add A1 [32, 97, 110, 100, 32] (by simp only [List.length_cons, List.length_nil]; omega)) ?_
        conv => whnf
        refine Om.of _ (qv_add (A1 ++ [32, 97, 110, 100, 32]) B1 (by simp only [List.length_append, List.length_cons, List.length_nil]; omega)) ?_
        conv => whnf
        rw [hct]
        exact ⟨rfl, rfl⟩
      rw [if_neg g1] at hct
      refine Br.no (decide_eq_false g1) ?_
      conv => whnf
      by_cases g2 : x % 12 < 4
      · rw [if_pos g2] at hct
        refine Br.yes (decide_eq_true g2) ?_
        conv => whnf
        rw [ed]
        refine (ih1).mono ?_
        rintro _ s1 ⟨h1, rfl⟩
        obtain rfl := h1.symm
        conv => whnf
        conv => whnf
        rw [ed]
        refine (ih2).mono ?_
        rintro _ s1 ⟨h1, rfl⟩
        obtain rfl := h1.symm
        conv => whnf
        conv => whnf
        refine Om.of _ (qv_add A1 [32, 111, 114, 32] (by simp only [List.length_cons, List.length_nil]; omega)) ?_
        conv => whnf
        refine Om.of _ (qv_add (A1 ++ [32, 111, 114, 32]) B1 (by simp only [List.length_append, List.length_cons, List.length_nil]; omega)) ?_
        conv => whnf
        rw [hct]
        exact ⟨rfl, rfl⟩
      rw [if_neg g2] at hct
      refine Br.no (decide_eq_false g2) ?_
      conv => whnf
      by_cases g3 : x % 12 < 6
      · rw [if_pos g3] at hct
        refine Br.yes (decide_eq_true g3) ?_
        conv => whnf
        rw [ed]
        refine (ih1).mono ?_
        rintro _ s1 ⟨h1, rfl⟩
        obtain rfl := h1.symm
        conv => whnf
        conv => whnf
        refine Om.of _ (qv_add [110, 111, 116, 32] A1 (by simp only [List.length_cons, List.length_nil]; omega)) ?_
        conv => whnf
        rw [hct]
        exact ⟨rfl, rfl⟩
      rw [if_neg g3] at hct
      refine Br.no (decide_eq_false g3) ?_
      conv => whnf
      by_cases g4 : x % 12 < 8
      · rw [if_pos g4] at hct
        refine Br.yes (decide_eq_true g4) ?_
        conv => whnf
        rw [ed]
        refine (ih1).mono ?_
        rintro _ s1 ⟨h1, rfl⟩
        obtain rfl := h1.symm
        conv => whnf
        conv => whnf
        refine Om.of _ (qv_add [40, 32] A1 (by simp only [List.length_cons, List.length_nil]; omega)) ?_
        conv => whnf
        refine Om.of _ (qv_add ([40, 32] ++ A1) [32, 41] (by simp only [List.length_append, List.length_cons, List.length_nil]; omega)) ?_
        conv => whnf
        rw [hct]
        exact ⟨rfl, rfl⟩
      rw [if_neg g4] at hct
      refine Br.no (decide_eq_false g4) ?_
      conv => whnf
      obtain ⟨J1, hJ1, hJ1'⟩ : ∃ J : Nat, x.tdiv 12 % 5 = (J : Int) ∧ J < 5 := ⟨(x.tdiv 12 % 5).toNat, by omega, by omega⟩
      obtain ⟨J2, hJ2, hJ2'⟩ : ∃ J : Nat, x.tdiv 60 % 3 = (J : Int) ∧ J < 3 := ⟨(x.tdiv 60 % 3).toNat, by omega, by omega⟩
      obtain ⟨J3, hJ3, hJ3'⟩ : ∃ J : Nat, x.tdiv 180 % 7 = (J : Int) ∧ J < 7 := ⟨(x.tdiv 180 % 7).toNat, by omega, by omega⟩
      have hlf : leafT x = wordL.getD J1 [] ++ [32] ++ signL.getD J2 [] ++ [32] ++ numL.getD J3 [] := by unfold leafT; rw [hJ1, hJ2, hJ3]; rfl
      have l1 := wordL_len J1 hJ1'
      have l2 := signL_len J2 hJ2'
      have l3 := numL_len J3 hJ3'
      refine Sm.seqW ?_
      conv => whnf
      refine ⟨[0, 0, 2, 6, 15, 31, 0, 0, 128, 398, 974, 2047, 4095, 0, 0, 16384, 50062, 123790, 262143, 0, 524287, 2097151], by decide +kernel, by decide +kernel, ?_⟩
      conv => whnf
      refine Om.of _ ((quo_int (by omega) hzi).1) ?_
      conv => whnf
      refine (pick_spec _ (quo_int (P := Tryz.prog) (t := 0) (cst := true) (m := 12) (by omega) hzi).2 (m := 5) (by decide) (by decide)).mono ?_
      rintro _ s1 ⟨h1, rfl⟩
      obtain rfl := h1.symm
      conv => whnf
      refine hp.dkS ?_
      conv => whnf
      rw [hJ1]
      refine Om.of _ (wordV_at hJ1') ?_
      conv => whnf
      generalize wordL.getD J1 [] = T1 at *
      refine Om.of _ (qv_add T1 [32] (by simp only [List.length_cons, List.length_nil]; omega)) ?_
      conv => whnf
      refine Om.of _ ((quo_int (by omega) hzi).1) ?_
      conv => whnf
      refine (pick_spec _ (quo_int (P := Tryz.prog) (t := 0) (cst := true) (m := 60) (by omega) hzi).2 (m := 3) (by decide) (by decide)).mono ?_
      rintro _ s1 ⟨h1, rfl⟩
      obtain rfl := h1.symm
      conv => whnf
      refine hp.dkS ?_
      conv => whnf
      rw [hJ2]
      refine Om.of _ (signV_at hJ2') ?_
      conv => whnf
      generalize signL.getD J2 [] = T2 at *
      refine Om.of _ (qv_add (T1 ++ [32]) T2 (by simp only [List.length_append, List.length_cons, List.length_nil]; omega)) ?_
      conv => whnf
      refine Om.of _ (qv_add (T1 ++ [32] ++ T2) [32] (by simp only [List.length_append, List.length_cons, List.length_nil]; omega)) ?_
      conv => whnf
      refine Om.of _ ((quo_int (by omega) hzi).1) ?_
      conv => whnf
      refine (pick_spec _ (quo_int (P := Tryz.prog) (t := 0) (cst := true) (m := 180) (by omega) hzi).2 (m := 7) (by decide) (by decide)).mono ?_
      rintro _ s1 ⟨h1, rfl⟩
      obtain rfl := h1.symm
      conv => whnf
      refine hp.dkS ?_
      conv => whnf
      rw [hJ3]
      refine Om.of _ (numV_at hJ3') ?_
      conv => whnf
      generalize numL.getD J3 [] = T3 at *
      refine Om.of _ (qv_add (T1 ++ [32] ++ T2 ++ [32]) T3 (by simp only [List.length_append, List.length_cons, List.length_nil]; omega)) ?_
      conv => whnf
      refine Sm.live [6, 7] ?_
      conv => whnf
      refine Sm.ofW ?_
      conv => whnf
      rw [hct, hlf]
      exact ⟨rfl, rfl⟩
    · have w1 : decide ((i : Int) ≥ (z.length : Int)) = true := decide_eq_true (by omega)
      rw [dif_neg h] at hct
      refine Sm.seqC (fun e L' s' => e = .normal ∧ s' = s ∧ Sub [(0, .slice a z.length c), (1, .int .i64 (i : Int)), (29, .bool true)] L') ?_ ?_
      · conv => whnf
        repeat (first | (refine Br.yes w1 ?_; conv => whnf) | (first | (refine Br.yes (by first | with_reducible rfl | with_reducible exact beq_self_eq_true _ | rfl) ?_; conv => whnf) | (refine Br.no (by first | with_reducible rfl | with_reducible exact bne_self_eq_false _ | rfl) ?_; conv => whnf)))
        exact ⟨rfl, rfl, subK_ok ⟨rfl, rfl, by first | rfl | exact congrArg (fun x => some (Value.bool x)) w1, trivial⟩⟩
      rintro e L' s' ⟨rfl, rfl, hs⟩
      refine Sm.weak _ hs ?_
      clear hs
      refine Sm.ofW ?_
      conv => whnf
      refine Br.yes rfl ?_
      conv => whnf
      rw [hct]
      exact ⟨rfl, rfl⟩
end Go.Ev
end

/- Views: tests of a row. No condition. -/
noncomputable section
namespace Go.Ev
open Go.Proofs
variable [Lk]
set_option linter.unusedSectionVars false
set_option linter.unusedVariables false
set_option maxRecDepth 100000

def testV (w : List UInt8) (side : Int) : Bool := if w = [61] then decide (side = 0) else if w = [60] then decide (side < 0) else if w = [62] then decide (side > 0) else false
/-- A row's field. -/
def numberR (r : Rv) (f : Int) : Int := if f = 1 then r.e else if f = 2 then r.ac else if f = 3 then r.p else if f = 4 then r.w else 0
def testedF (n : Qn) (r : Rv) : Bool := if n.field = 5 then testV n.sign (cmpF r.am n.val_) else if 1 ≤ n.field ∧ n.field ≤ 4 then testV n.sign (cmpF (ofD (numberR r n.field) 0) n.val_) else false
/-- A row's numbers are numbers. -/
structure Rv.num (r : Rv) : Prop where
  e : inR r.e
  ac : inR r.ac
  p : inR r.p
  w : inR r.w
  am : r.am.c < w128
theorem vtest_spec {z : St} (wf : WF z) (n : Qn) (d : Dc) (hn : n.val_.c < w128) (hd : d.c < w128) : Cw Tryz.prog 125 [n.val, d.val] z fun v s' => K0 z s' ∧ v = .bool (testV n.sign (cmpF d n.val_)) := by
  have hp : Hp (fun _ => False) z [] [] z := Hp.start _ wf _ (by simp)
  refine Cw.enterS Tryz.func125 rfl rfl ?_
  refine Sm.seqW ?_
  conv => whnf
  refine hp.var (cs := n.cells) (e := 9) rfl rfl ?_
  clear hp
  intro p2 s hp _
  conv => whnf
  refine hp.var (cs := d.cells) (e := 4) rfl rfl ?_
  clear hp
  intro p3 s hp _
  conv => whnf
  refine Sm.live [2, 3] ?_
  conv => whnf
  refine Sm.seqW ?_
  conv => whnf
  refine hp.loadA (l := d.cells) (by repeat (first | exact Has.here | apply Has.there | (apply Has.swap; repeat (first | exact HasR.here | apply HasR.there)))) rfl (by rfl) rfl rfl ?_
  conv => whnf
  refine hp.loadA (l := n.val_.cells) (by repeat (first | exact Has.here | apply Has.there | (apply Has.swap; repeat (first | exact HasR.here | apply HasR.there)))) rfl (by rfl) rfl rfl ?_
  conv => whnf
  refine hp.call (decCmp_spec hp.wf d n.val_ hd hn) ?_
  clear hp
  rintro _ s rfl hp _
  conv => whnf
  refine Sm.live [2, 5] ?_
  conv => whnf
  have hv : testV n.sign (cmpF d n.val_) = if n.sign = [61] then decide (cmpF d n.val_ = 0) else if n.sign = [60] then decide (cmpF d n.val_ < 0) else if n.sign = [62] then decide (cmpF d n.val_ > 0) else false := rfl
  generalize cmpF d n.val_ = side at hv ⊢
  refine Sm.seq ?_
  refine Sm.seqW ?_
  conv => whnf
  refine hp.load (v := sv n.sign) (by repeat (first | exact Has.here | apply Has.there | (apply Has.swap; repeat (first | exact HasR.here | apply HasR.there)))) (by rfl) rfl rfl rfl ?_
  conv => whnf
  refine Sm.live [5, 11] ?_
  conv => whnf
  refine Sm.block ?_
  refine Sm.seqW ?_
  conv => whnf
  refine Om.of _ (sv_eq n.sign [61]) ?_
  conv => whnf
  refine Sm.live [5, 11, 12] ?_
  conv => whnf
  refine Sm.ofW ?_
  conv => whnf
  by_cases h1 : n.sign = [61]
  · rw [if_pos h1] at hv
    refine Br.yes (beq_iff_eq.2 h1) ?_
    conv => whnf
    rw [hv]
    exact ⟨hp.fr, congrArg Value.bool (by rw [Bool.eq_iff_iff]; simp)⟩
  rw [if_neg h1] at hv
  refine Br.no (beq_eq_false_iff_ne.2 h1) ?_
  conv => whnf
  refine Om.of _ (sv_eq n.sign [60]) ?_
  conv => whnf
  by_cases h2 : n.sign = [60]
  · rw [if_pos h2] at hv
    refine Br.yes (beq_iff_eq.2 h2) ?_
    conv => whnf
    rw [hv]
    exact ⟨hp.fr, rfl⟩
  rw [if_neg h2] at hv
  refine Br.no (beq_eq_false_iff_ne.2 h2) ?_
  conv => whnf
  refine Om.of _ (sv_eq n.sign [62]) ?_
  conv => whnf
  by_cases h3 : n.sign = [62]
  · rw [if_pos h3] at hv
    refine Br.yes (beq_iff_eq.2 h3) ?_
    conv => whnf
    rw [hv]
    exact ⟨hp.fr, rfl⟩
  rw [if_neg h3] at hv
  refine Br.no (beq_eq_false_iff_ne.2 h3) ?_
  conv => whnf
  refine Sm.seqW ?_
  conv => whnf
  refine Sm.live [4] ?_
  conv => whnf
  refine Sm.ofW ?_
  conv => whnf
  rw [hv]
  exact ⟨hp.fr, rfl⟩
theorem vnumber_spec {z : St} (wf : WF z) (r : Rv) {f : Nat} (hf1 : 1 ≤ f) (hf4 : f ≤ 4) : Cw Tryz.prog 111 [r.val, .int .i64 (f : Int)] z fun v s' => K0 z s' ∧ v = .int .i64 (numberR r (f : Int)) := by
  have hp : Hp (fun _ => False) z [] [] z := Hp.start _ wf _ (by simp)
  refine Cw.enterS Tryz.func111 rfl rfl ?_
  refine Sm.seqW ?_
  conv => whnf
  refine hp.var (cs := r.cells) (e := 10) rfl rfl ?_
  clear hp
  intro p2 s hp _
  conv => whnf
  refine Sm.live [1, 2] ?_
  conv => whnf
  refine Sm.seqW ?_
  conv => whnf
  refine hp.load (v := .int .i64 r.e) (by repeat (first | exact Has.here | apply Has.there | (apply Has.swap; repeat (first | exact HasR.here | apply HasR.there)))) (by rfl) rfl rfl rfl ?_
  conv => whnf
  refine hp.load (v := .int .i64 r.ac) (by repeat (first | exact Has.here | apply Has.there | (apply Has.swap; repeat (first | exact HasR.here | apply HasR.there)))) (by rfl) rfl rfl rfl ?_
  conv => whnf
  refine hp.load (v := .int .i64 r.p) (by repeat (first | exact Has.here | apply Has.there | (apply Has.swap; repeat (first | exact HasR.here | apply HasR.there)))) (by rfl) rfl rfl rfl ?_
  conv => whnf
  refine hp.load (v := .int .i64 r.w) (by repeat (first | exact Has.here | apply Has.there | (apply Has.swap; repeat (first | exact HasR.here | apply HasR.there)))) (by rfl) rfl rfl rfl ?_
  conv => whnf
  refine hp.lit (cs := [.int .i64 0, .int .i64 r.e, .int .i64 r.ac, .int .i64 r.p, .int .i64 r.w]) (e := 1) (by rfl) ?_
  clear hp
  intro b13 s hp _
  conv => whnf
  have hsl : Sl s (some b13) (.slice (some ⟨b13, 0, none⟩) 5 5) 1 5 [.int .i64 0, .int .i64 r.e, .int .i64 r.ac, .int .i64 r.p, .int .i64 r.w] := hp.blkSl (by repeat (first | exact Has.here | apply Has.there | (apply Has.swap; repeat (first | exact HasR.here | apply HasR.there)))) rfl
  obtain ⟨p, y, e1, e2, e3, _, rfl⟩ := index_sl IL Tryz.underlying3 rfl hsl .i64 (i := f) (by omega)
  have hy : y = .int .i64 (numberR r (f : Int)) := by
    have : f = 1 ∨ f = 2 ∨ f = 3 ∨ f = 4 := by omega
    rcases this with rfl | rfl | rfl | rfl <;> exact (Option.some.inj e2).symm
  subst hy
  refine Om.of _ (e1) ?_
  conv => whnf
  refine Om.of _ (e3) ?_
  conv => whnf
  refine Sm.live [4] ?_
  conv => whnf
  refine Sm.ofW ?_
  conv => whnf
  exact ⟨hp.fr, rfl⟩
theorem tested_spec {z : St} (wf : WF z) (n : Qn) (r : Rv) (hn : n.val_.c < w128) (hr : r.num) : Cw Tryz.prog 83 [n.val, r.val] z fun v s' => K0 z s' ∧ v = .bool (testedF n r) := by
  have hp : Hp (fun _ => False) z [] [] z := Hp.start _ wf _ (by simp)
  refine Cw.enterS Tryz.func83 rfl rfl ?_
  refine Sm.seqW ?_
  conv => whnf
  refine hp.var (cs := n.cells) (e := 9) rfl rfl ?_
  clear hp
  intro p2 s hp _
  conv => whnf
  refine hp.var (cs := r.cells) (e := 10) rfl rfl ?_
  clear hp
  intro p3 s hp _
  conv => whnf
  refine Sm.live [2, 3] ?_
  conv => whnf
  have ht : testedF n r = if n.field = 5 then testV n.sign (cmpF r.am n.val_) else if 1 ≤ n.field ∧ n.field ≤ 4 then testV n.sign (cmpF (ofD (numberR r n.field) 0) n.val_) else false := rfl
  refine Sm.seq ?_
  refine Sm.block ?_
  refine Sm.seqW ?_
  conv => whnf
  refine hp.load (v := .int .i64 n.field) (by repeat (first | exact Has.here | apply Has.there | (apply Has.swap; repeat (first | exact HasR.here | apply HasR.there)))) (by rfl) rfl rfl rfl ?_
  conv => whnf
  refine Sm.live [2, 3, 5] ?_
  conv => whnf
  refine Sm.ofW ?_
  conv => whnf
  by_cases h5 : n.field = 5
  · rw [if_pos h5] at ht
    refine Br.yes (beq_iff_eq.2 h5) ?_
    conv => whnf
    refine hp.loadA (l := n.cells) (by repeat (first | exact Has.here | apply Has.there | (apply Has.swap; repeat (first | exact HasR.here | apply HasR.there)))) rfl (by rfl) rfl rfl ?_
    conv => whnf
    refine hp.loadA (l := r.am.cells) (by repeat (first | exact Has.here | apply Has.there | (apply Has.swap; repeat (first | exact HasR.here | apply HasR.there)))) rfl (by rfl) rfl rfl ?_
    conv => whnf
    refine hp.call (vtest_spec hp.wf n r.am hn hr.am) ?_
    clear hp
    rintro _ s rfl hp _
    conv => whnf
    rw [ht]
    exact ⟨hp.fr, rfl⟩
  rw [if_neg h5] at ht
  refine Br.no (beq_eq_false_iff_ne.2 h5) ?_
  conv => whnf
  refine hp.load (v := .int .i64 n.field) (by repeat (first | exact Has.here | apply Has.there | (apply Has.swap; repeat (first | exact HasR.here | apply HasR.there)))) (by rfl) rfl rfl rfl ?_
  conv => whnf
  by_cases h1 : 1 ≤ n.field
  · have q1 : decide (n.field ≥ 1) = true := decide_eq_true h1
    repeat (first | (refine Br.yes q1 ?_; conv => whnf) | (first | (refine Br.yes (by first | with_reducible rfl | with_reducible exact beq_self_eq_true _ | rfl) ?_; conv => whnf) | (refine Br.no (by first | with_reducible rfl | with_reducible exact bne_self_eq_false _ | rfl) ?_; conv => whnf)))
    refine hp.load (v := .int .i64 n.field) (by repeat (first | exact Has.here | apply Has.there | (apply Has.swap; repeat (first | exact HasR.here | apply HasR.there)))) (by rfl) rfl rfl rfl ?_
    conv => whnf
    by_cases h4 : n.field ≤ 4
    · have q4 : decide (n.field ≤ 4) = true := decide_eq_true h4
      rw [if_pos ⟨h1, h4⟩] at ht
      obtain ⟨f, hf, hf1, hf4⟩ : ∃ f : Nat, n.field = (f : Int) ∧ 1 ≤ f ∧ f ≤ 4 := ⟨n.field.toNat, by omega, by omega, by omega⟩
      have hin : inR (numberR r n.field) := by
        rw [hf]
        have : f = 1 ∨ f = 2 ∨ f = 3 ∨ f = 4 := by omega
        rcases this with rfl | rfl | rfl | rfl
        · exact hr.e
        · exact hr.ac
        · exact hr.p
        · exact hr.w
      repeat (first | (refine Br.yes q1 ?_; conv => whnf) | (refine Br.yes q4 ?_; conv => whnf) | (first | (refine Br.yes (by first | with_reducible rfl | with_reducible exact beq_self_eq_true _ | rfl) ?_; conv => whnf) | (refine Br.no (by first | with_reducible rfl | with_reducible exact bne_self_eq_false _ | rfl) ?_; conv => whnf)))
      refine ⟨[0, 0, 0, 4, 14, 30, 63, 127], by decide +kernel, by decide +kernel, ?_⟩
      conv => whnf
      refine hp.loadA (l := n.cells) (by repeat (first | exact Has.here | apply Has.there | (apply Has.swap; repeat (first | exact HasR.here | apply HasR.there)))) rfl (by rfl) rfl rfl ?_
      conv => whnf
      refine hp.loadA (l := r.cells) (by repeat (first | exact Has.here | apply Has.there | (apply Has.swap; repeat (first | exact HasR.here | apply HasR.there)))) rfl (by rfl) rfl rfl ?_
      conv => whnf
      refine hp.load (v := .int .i64 n.field) (by repeat (first | exact Has.here | apply Has.there | (apply Has.swap; repeat (first | exact HasR.here | apply HasR.there)))) (by rfl) rfl rfl rfl ?_
      conv => whnf
      rw [hf]
      refine hp.rst.call (vnumber_spec hp.rst.wf r hf1 hf4) ?_
      rintro _ s1 rfl h1 k1
      conv => whnf
      refine hp.dkN h1 k1 ?_
      clear hp h1 k1
      intro s hp
      conv => whnf
      rw [← hf]
      refine hp.rst.call (dof_spec hp.rst.wf hin 0) ?_
      rintro _ s1 rfl h1 k1
      conv => whnf
      refine hp.dkN h1 k1 ?_
      clear hp h1 k1
      intro s hp
      conv => whnf
      refine hp.rst.call (vtest_spec hp.rst.wf n (ofD (numberR r n.field) 0) hn (by unfold ofD w128; unfold inR at hin; simp only; omega)) ?_
      rintro _ s1 rfl h1 k1
      conv => whnf
      refine hp.dkN h1 k1 ?_
      clear hp h1 k1
      intro s hp
      conv => whnf
      rw [ht]
      exact ⟨hp.fr, rfl⟩
    · have q4 : decide (n.field ≤ 4) = false := decide_eq_false h4
      rw [if_neg (fun h => h4 h.2)] at ht
      repeat (first | (refine Br.yes q1 ?_; conv => whnf) | (refine Br.no q4 ?_; conv => whnf) | (first | (refine Br.yes (by first | with_reducible rfl | with_reducible exact beq_self_eq_true _ | rfl) ?_; conv => whnf) | (refine Br.no (by first | with_reducible rfl | with_reducible exact bne_self_eq_false _ | rfl) ?_; conv => whnf)))
      refine Sm.seqW ?_
      conv => whnf
      refine Sm.live [4] ?_
      conv => whnf
      refine Sm.ofW ?_
      conv => whnf
      rw [ht]
      exact ⟨hp.fr, rfl⟩
  · have q1 : decide (n.field ≥ 1) = false := decide_eq_false h1
    rw [if_neg (fun h => h1 h.1)] at ht
    repeat (first | (refine Br.no q1 ?_; conv => whnf) | (first | (refine Br.yes (by first | with_reducible rfl | with_reducible exact beq_self_eq_true _ | rfl) ?_; conv => whnf) | (refine Br.no (by first | with_reducible rfl | with_reducible exact bne_self_eq_false _ | rfl) ?_; conv => whnf)))
    refine Sm.seqW ?_
    conv => whnf
    refine Sm.live [4] ?_
    conv => whnf
    refine Sm.ofW ?_
    conv => whnf
    rw [ht]
    exact ⟨hp.fr, rfl⟩
end Go.Ev
end
