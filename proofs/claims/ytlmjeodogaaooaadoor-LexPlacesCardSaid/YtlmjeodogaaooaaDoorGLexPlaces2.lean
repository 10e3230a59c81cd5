/- Several texts in one: what the law's text leans on, one behind the other. No condition but those that each theorem names. -/
import Derived.Test.YtlmjeodogaaooaaDoorGLexPlaces1
/- Texts: HasPrefix, CutPrefix, Cut at one byte. No condition. -/
noncomputable section
namespace Go.Ev
open Go.Proofs
variable [Lk]
set_option linter.unusedSectionVars false
set_option linter.unusedVariables false
set_option maxRecDepth 100000

/-- A text of these bytes. -/
abbrev sv (l : List UInt8) : Value := .string ⟨l.toArray⟩
theorem sv_bs (t : ByteArray) : Value.string t = sv (bs t) := congrArg Value.string (mk_bs t).symm
theorem str_index {P : Program} {t : TypeId} (hu : P.underlying t = some .string) {l : List UInt8} {i : Nat} (h : i < l.length) (k : IntKind) : evIndex P t (sv l) (.int k (i : Int)) = some (.int .u8 ((l[i].toNat : Nat) : Int)) := by
  show (match P.underlying t, sv l, Value.int k (.ofNat i) with
    | some (.array n e), .agg cs, .int _ (.ofNat i) => match Nat.blt i n, P.info? e with
      | true, some j => partL P e cs.toList (i * j.size)
      | _, _ => none
    | some .string, .string s, .int _ (.ofNat i) => match (bs s)[i]? with
      | some b => some (.int .u8 b.toNat)
      | none => none
    | _, _, _ => none) = _
  rw [hu]
  simp only [bs_mk, List.getElem?_eq_getElem h]
theorem str_slice {P : Program} {t : TypeId} (hu : P.underlying t = some .string) {l : List UInt8} (k1 k2 : IntKind) (lo hi : Option Nat) (h1 : lo.getD 0 ≤ hi.getD l.length) (h2 : hi.getD l.length ≤ l.length) :
    evSliceStr P t (sv l) (bndV k1 lo) (bndV k2 hi) = some (sv ((l.drop (lo.getD 0)).take (hi.getD l.length - lo.getD 0))) := by
  have hb : bnds l.length l.length (bndV k1 lo) (bndV k2 hi) none = some (lo.getD 0, hi.getD l.length, l.length) := by
    unfold bnds
    cases lo <;> cases hi <;> simp only [bndV, Option.getD_none, Option.getD_some] at h1 h2 ⊢
    · rw [bnd_nat h2]
    · rw [bnd_nat h1]
    · rw [bnd_nat h2]; simp only; rw [bnd_nat h1]
  unfold evSliceStr
  rw [hu]
  simp only [bs_mk, hb]
theorem str_take {P : Program} {t : TypeId} (hu : P.underlying t = some .string) {l : List UInt8} (k : IntKind) {j : Nat} (h : j ≤ l.length) : evSliceStr P t (sv l) none (some (.int k (j : Int))) = some (sv (l.take j)) := by
  have := str_slice hu (l := l) k k none (some j) (by simp) (by simpa using h)
  simpa [bndV] using this
theorem str_drop {P : Program} {t : TypeId} (hu : P.underlying t = some .string) {l : List UInt8} (k : IntKind) {j : Nat} (h : j ≤ l.length) : evSliceStr P t (sv l) (some (.int k (j : Int))) none = some (sv (l.drop j)) := by
  have := str_slice hu (l := l) k k (some j) none (by simpa using h) (by simp)
  simp only [bndV, Option.getD_some, Option.getD_none] at this
  rw [this, List.take_of_length_le (by simp)]
theorem sv_eq {P : Program} {t : TypeId} {c : Bool} (a b : List UInt8) : evBin P .eql t c (sv a) (sv b) = some (.bool (a == b)) := str_eq _ _
theorem sv_ne {P : Program} {t : TypeId} {c : Bool} (a b : List UInt8) : evBin P .neq t c (sv a) (sv b) = some (.bool (!(a == b))) := str_ne _ _
def hasP (l p : List UInt8) : Bool := decide (p.length ≤ l.length) && (l.take p.length == p)
theorem hasPrefix_spec (s : St) (l p : List UInt8) : Cw Tryd.prog 98 [sv l, sv p] s fun r s' => s' = s ∧ r = .bool (hasP l p) := by
  refine Cw.enterS Tryd.func98 rfl rfl ?_
  refine Sm.seqW ?_
  conv => whnf
  refine Sm.seqW ?_
  conv => whnf
  unfold hasP
  by_cases h : p.length ≤ l.length
  · have hd : decide ((l.length : Int) ≥ (p.length : Int)) = true := decide_eq_true (by omega)
    repeat (refine Br.yes hd ?_; conv => whnf)
    refine Om.of _ (str_take Tryd.underlying9 .i64 h) ?_
    conv => whnf
    repeat (refine Br.yes hd ?_; conv => whnf)
    refine Om.of _ (sv_eq (l.take p.length) p) ?_
    conv => whnf
    repeat (refine Br.yes hd ?_; conv => whnf)
    refine Sm.ofW ?_
    conv => whnf
    rw [decide_eq_true h]
    exact ⟨rfl, rfl⟩
  · have hd : decide ((l.length : Int) ≥ (p.length : Int)) = false := decide_eq_false (by omega)
    repeat (refine Br.no hd ?_; conv => whnf)
    refine Sm.ofW ?_
    conv => whnf
    rw [decide_eq_false h]
    exact ⟨rfl, rfl⟩
def cutP (l p : List UInt8) : Value := if hasP l p = true then .tuple #[sv (l.drop p.length), .bool true] else .tuple #[sv l, .bool false]
theorem lcutPrefix_spec (s : St) (l p : List UInt8) : Cw Tryd.prog 77 [sv l, sv p] s fun r s' => s' = s ∧ r = cutP l p := by
  refine Cw.enterS Tryd.func77 rfl rfl ?_
  refine Sm.seqW ?_
  conv => whnf
  refine Sm.seq ?_
  refine Sm.seqW ?_
  conv => whnf
  refine (hasPrefix_spec _ l p).mono ?_
  rintro _ s1 ⟨h1, rfl⟩
  obtain rfl := h1.symm
  conv => whnf
  refine Sm.ofW ?_
  conv => whnf
  unfold cutP
  cases h : hasP l p with
  | false =>
    repeat (first | (refine Br.yes (by first | with_reducible rfl | with_reducible exact beq_self_eq_true _ | rfl) ?_; conv => whnf) | (refine Br.no (by first | with_reducible rfl | with_reducible exact bne_self_eq_false _ | rfl) ?_; conv => whnf))
    exact ⟨rfl, rfl⟩
  | true =>
    have hl : p.length ≤ l.length := by
      unfold hasP at h
      simp only [Bool.and_eq_true, decide_eq_true_eq] at h
      exact h.1
    repeat (first | (refine Br.yes (by first | with_reducible rfl | with_reducible exact beq_self_eq_true _ | rfl) ?_; conv => whnf) | (refine Br.no (by first | with_reducible rfl | with_reducible exact bne_self_eq_false _ | rfl) ?_; conv => whnf))
    refine Sm.seqW ?_
    conv => whnf
    refine Om.of _ (str_drop Tryd.underlying9 .i64 hl) ?_
    conv => whnf
    refine Sm.ofW ?_
    conv => whnf
    exact ⟨rfl, rfl⟩
theorem cutPrefix_spec (s : St) (l p : List UInt8) : Cw Tryd.prog 59 [sv l, sv p] s fun r s' => s' = s ∧ r = cutP l p := by
  refine Cw.enterS Tryd.func59 rfl rfl ?_
  refine Sm.seqW ?_
  conv => whnf
  refine Sm.seqW ?_
  conv => whnf
  refine (lcutPrefix_spec _ l p).mono ?_
  rintro r s1 ⟨h1, hr⟩
  obtain rfl := h1.symm
  unfold cutP at hr ⊢
  cases h : hasP l p with
  | false =>
    rw [h] at hr
    subst hr
    conv => whnf
    refine Sm.ofW ?_
    conv => whnf
    exact ⟨rfl, rfl⟩
  | true =>
    rw [h] at hr
    subst hr
    conv => whnf
    refine Sm.ofW ?_
    conv => whnf
    exact ⟨rfl, rfl⟩
end Go.Ev
end

/- Texts: IndexByte, Index and Cut at one byte. No condition. -/
noncomputable section
namespace Go.Ev
open Go.Proofs
variable [Lk]
set_option linter.unusedSectionVars false
set_option linter.unusedVariables false
set_option maxRecDepth 100000

theorem idxL_some {c : Nat} : ∀ {l : List UInt8} {i j : Nat}, idxL c l i = some j → ∃ k, j = i + k ∧ ∃ h : k < l.length, l[k].toNat = c ∧ ∀ m, (hm : m < k) → (l[m]'(by omega)).toNat ≠ c
  | [], i, j, h => by cases h
  | x :: xs, i, j, h => by
    unfold idxL at h
    split at h
    · rename_i hb
      injection h with h
      exact ⟨0, by omega, by simp, Nat.eq_of_beq_eq_true hb, fun m hm => by omega⟩
    · rename_i hb
      obtain ⟨k, h1, h2, h3, h4⟩ := idxL_some h
      refine ⟨k + 1, by omega, by simp; omega, by simpa using h3, fun m hm => ?_⟩
      cases m with
      | zero => intro e; rw [show ((x :: xs)[0]'(by simp)) = x from rfl] at e; rw [e, Nat.beq_refl] at hb; cases hb
      | succ m => simpa using h4 m (by omega)
theorem idxL_none {c : Nat} : ∀ {l : List UInt8} {i : Nat}, idxL c l i = none → ∀ x ∈ l, x.toNat ≠ c
  | [], i, h => by simp
  | y :: ys, i, h => by
    unfold idxL at h
    split at h
    · cases h
    · rename_i hb
      intro x hx
      rcases List.mem_cons.1 hx with rfl | hx
      · intro e; rw [e, Nat.beq_refl] at hb; cases hb
      · exact idxL_none h x hx
def ixI (o : Option Nat) : Int := match o with
  | some i => (i : Int)
  | none => -1
theorem ibs_spec (s : St) (l : List UInt8) (c : UInt8) : Cw Tryd.prog 83 [sv l, .int .u8 ((c.toNat : Nat) : Int)] s fun r s' => s' = s ∧ r = .int .i64 (ixI (idxL c.toNat l 0)) := by
  refine ⟨⟨_, s, ⟨rfl, rfl⟩, .inr (.inl ⟨rfl, _, Tryd.func83, rfl, ?_⟩)⟩⟩
  have hc : Nat.blt c.toNat 256 = true := blt_of c.toNat_lt
  have : evExt "internal/bytealg.IndexByteString" [sv l, .int .u8 ((c.toNat : Nat) : Int)] = some (.int .i64 (ixI (idxL c.toNat l 0))) := by
    unfold evExt
    rw [show ("internal/bytealg.IndexByteString" == "internal/bytealg.IndexByteString") = true from rfl]
    show (match Nat.blt c.toNat 256 with
      | true => match idxL c.toNat (bs ⟨l.toArray⟩) 0 with
        | some i => some (Value.int .i64 (.ofNat i))
        | none => some (Value.int .i64 (.negSucc 0))
      | false => none) = _
    rw [hc, bs_mk]
    cases idxL c.toNat l 0 <;> rfl
  exact this
theorem indexByte_spec (s : St) (l : List UInt8) (c : UInt8) : Cw Tryd.prog 67 [sv l, .int .u8 ((c.toNat : Nat) : Int)] s fun r s' => s' = s ∧ r = .int .i64 (ixI (idxL c.toNat l 0)) := by
  refine Cw.enterS Tryd.func67 rfl rfl ?_
  refine Sm.seqW ?_
  conv => whnf
  refine Sm.seqW ?_
  conv => whnf
  refine (ibs_spec _ l c).mono ?_
  rintro _ s1 ⟨h1, rfl⟩
  obtain rfl := h1.symm
  conv => whnf
  refine Sm.ofW ?_
  conv => whnf
  exact ⟨rfl, rfl⟩
theorem index1_spec (s : St) (l : List UInt8) (c : UInt8) : Cw Tryd.prog 69 [sv l, sv [c]] s fun r s' => s' = s ∧ r = .int .i64 (ixI (idxL c.toNat l 0)) := by
  refine Cw.enterS Tryd.func69 rfl rfl ?_
  refine Sm.seqW ?_
  conv => whnf
  refine Sm.seqW ?_
  conv => whnf
  refine Sm.seq ?_
  refine Sm.block ?_
  refine Sm.seqW ?_
  conv => whnf
  repeat (first | (refine Br.yes (by first | with_reducible rfl | with_reducible exact beq_self_eq_true _ | rfl) ?_; conv => whnf) | (refine Br.no (by first | with_reducible rfl | with_reducible exact bne_self_eq_false _ | rfl) ?_; conv => whnf))
  refine Om.of _ (sv_eq [c] l) ?_
  conv => whnf
  repeat (first | (refine Br.yes (by first | with_reducible rfl | with_reducible exact beq_self_eq_true _ | rfl) ?_; conv => whnf) | (refine Br.no (by first | with_reducible rfl | with_reducible exact bne_self_eq_false _ | rfl) ?_; conv => whnf))
  refine Sm.ofW ?_
  conv => whnf
  by_cases he : l = [c]
  · subst he
    have hq : (([c] : List UInt8) == [c]) = true := beq_self_eq_true _
    rw [hq]
    repeat (first | (refine Br.yes (by first | with_reducible rfl | with_reducible exact beq_self_eq_true _ | rfl) ?_; conv => whnf) | (refine Br.no (by first | with_reducible rfl | with_reducible exact bne_self_eq_false _ | rfl) ?_; conv => whnf))
    have hi : ixI (idxL c.toNat [c] 0) = 0 := by
      unfold idxL
      rw [Nat.beq_refl]; rfl
    rw [hi]
    exact ⟨rfl, rfl⟩
  have hq : (([c] : List UInt8) == l) = false := beq_eq_false_iff_ne.2 fun h => he h.symm
  rw [hq]
  repeat (first | (refine Br.yes (by first | with_reducible rfl | with_reducible exact beq_self_eq_true _ | rfl) ?_; conv => whnf) | (refine Br.no (by first | with_reducible rfl | with_reducible exact bne_self_eq_false _ | rfl) ?_; conv => whnf))
  refine Om.of _ (str_index Tryd.underlying9 (l := [c]) (i := 0) (by simp) .i64) ?_
  conv => whnf
  refine (indexByte_spec _ l c).mono ?_
  rintro _ s1 ⟨h1, rfl⟩
  obtain rfl := h1.symm
  conv => whnf
  exact ⟨rfl, rfl⟩
end Go.Ev
end

/- Texts: Cut at one byte; a set of figures; Trim. No condition. -/
noncomputable section
namespace Go.Ev
open Go.Proofs
variable [Lk]
set_option linter.unusedSectionVars false
set_option linter.unusedVariables false
set_option maxRecDepth 100000

def cutF (l : List UInt8) (c : UInt8) : Value := match idxL c.toNat l 0 with
  | some i => .tuple #[sv (l.take i), sv (l.drop (i + 1)), .bool true]
  | none => .tuple #[sv l, sv [], .bool false]
theorem lcut_spec (s : St) (l : List UInt8) (hl : l.length < 4611686018427387904) (c : UInt8) : Cw Tryd.prog 54 [sv l, sv [c]] s fun r s' => s' = s ∧ r = cutF l c := by
  refine Cw.enterS Tryd.func54 rfl rfl ?_
  refine Sm.seqW ?_
  conv => whnf
  refine Sm.seq ?_
  refine Sm.seqW ?_
  conv => whnf
  refine (index1_spec _ l c).mono ?_
  rintro _ s1 ⟨h1, rfl⟩
  obtain rfl := h1.symm
  conv => whnf
  refine Sm.seqW ?_
  conv => whnf
  refine Sm.ofW ?_
  conv => whnf
  unfold cutF
  cases hi : idxL c.toNat l 0 with
  | none =>
    repeat (first | (refine Br.yes (by first | with_reducible rfl | with_reducible exact beq_self_eq_true _ | rfl) ?_; conv => whnf) | (refine Br.no (by first | with_reducible rfl | with_reducible exact bne_self_eq_false _ | rfl) ?_; conv => whnf))
    refine Sm.seqW ?_
    conv => whnf
    refine Sm.ofW ?_
    conv => whnf
    exact ⟨rfl, rfl⟩
  | some i =>
    obtain ⟨k, h1, h2, h3, h4⟩ := idxL_some hi
    have hk : i < l.length := by omega
    have hd : decide (ixI (some i) ≥ 0) = true := decide_eq_true (by show (i : Int) ≥ 0; omega)
    refine Br.yes (hd) ?_
    conv => whnf
    refine ⟨[0, 0, 3, 0, 0, 0, 32, 112, 248, 7, 1023, 2047], by decide +kernel, by decide +kernel, ?_⟩
    conv => whnf
    have e1 : IntKind.i64.wrap (ixI (some i) + (([c] : List UInt8).length : Int)) = ((i + 1 : Nat) : Int) := by
      show IntKind.i64.wrap ((i : Int) + 1) = _
      rw [wi64 (by omega) (by omega)]; push_cast; rfl
    refine Om.of _ (str_take Tryd.underlying9 (l := l) (j := i) .i64 (by omega)) ?_
    conv => whnf
    have e2 : IntKind.i64.wrap (ixI (some i) + ((bs ⟨#[c]⟩).length : Int)) = ((i + 1 : Nat) : Int) := e1
    rw [e2]
    refine Om.of _ (str_drop Tryd.underlying9 (l := l) (j := i + 1) .i64 (by omega)) ?_
    conv => whnf
    exact ⟨rfl, rfl⟩
theorem cut_spec (s : St) (l : List UInt8) (hl : l.length < 4611686018427387904) (c : UInt8) : Cw Tryd.prog 39 [sv l, sv [c]] s fun r s' => s' = s ∧ r = cutF l c := by
  refine Cw.enterS Tryd.func39 rfl rfl ?_
  refine Sm.seqW ?_
  conv => whnf
  refine Sm.seqW ?_
  conv => whnf
  refine (lcut_spec _ l hl c).mono ?_
  rintro r s1 ⟨h1, hr⟩
  obtain rfl := h1.symm
  unfold cutF at hr ⊢
  cases hi : idxL c.toNat l 0 with
  | none =>
    rw [hi] at hr
    subst hr
    conv => whnf
    refine Sm.ofW ?_
    conv => whnf
    exact ⟨rfl, rfl⟩
  | some i =>
    rw [hi] at hr
    subst hr
    conv => whnf
    refine Sm.ofW ?_
    conv => whnf
    exact ⟨rfl, rfl⟩
/-! ### the figures' set -/
def isD (b : UInt8) : Bool := decide (48 ≤ b.toNat ∧ b.toNat ≤ 57)
def natB (l : List Bool) : List Value := l.map Value.bool
def figB (i : Nat) : List Bool := (List.range 256).map fun k => decide (48 ≤ k ∧ k < 48 + i)
abbrev figs : List UInt8 := [48, 49, 50, 51, 52, 53, 54, 55, 56, 57]
theorem figB_len (i : Nat) : (figB i).length = 256 := by simp [figB]
theorem natB_len (l : List Bool) : (natB l).length = l.length := by simp [natB]
theorem natB_set (l : List Bool) (k : Nat) (b : Bool) : (natB l).set k (.bool b) = natB (l.set k b) := by simp [natB, List.map_set]
theorem figB_step : ∀ i, i < 10 → (figB i).set (48 + i) true = figB (i + 1) := by decide +kernel
theorem figs_at : ∀ i, (h : i < 10) → (figs[i]'h).toNat = 48 + i := by decide +kernel
theorem figB_get {k : Nat} (h : k < 256) : (natB (figB 10))[k]? = some (.bool (decide (48 ≤ k ∧ k ≤ 57))) := by
  unfold natB figB
  rw [List.map_map, List.getElem?_map, List.getElem?_range h]
  show some (Value.bool (decide (48 ≤ k ∧ k < 48 + 10))) = _
  have : decide (48 ≤ k ∧ k < 48 + 10) = decide (48 ≤ k ∧ k ≤ 57) := decide_eq_decide.2 (by omega)
  rw [this]
theorem asciiSet_spec {z : St} (wf : WF z) : Cw Tryd.prog 101 [sv figs] z fun r s' => K0 z s' ∧ r = .tuple #[.agg (natB (figB 10)).toArray, .bool true] := by
  have hp : Hp (fun _ => False) z [] [] z := Hp.start _ wf _ (by simp)
  refine Cw.enterS Tryd.func101 rfl rfl ?_
  refine Sm.seqW ?_
  conv => whnf
  refine hp.alloc (cs := natB (figB 0)) (e := 1) rfl rfl rfl (by kernel_rfl) rfl ?_
  clear hp
  intro p2 s hp _
  conv => whnf
  refine Sm.live [0, 2] ?_
  conv => whnf
  refine Sm.seq ?_
  refine Sm.seqW ?_
  conv => whnf
  refine Sm.block ?_
  refine Sm.loop ?_
  refine Lp.ofS (α := Nat) (fun i => [(0, sv figs), (2, .pointer (some ⟨p2, 0, none⟩)), (4, .int .i64 (i : Int))])
    (fun i s' => i ≤ 10 ∧ Hp (fun _ => False) z [] [blkA p2 p2 (natB (figB i)) 1] s') (fun i => 10 - i) ?_ 0 (subK_ok (by refine ⟨rfl, rfl, rfl, trivial⟩)) ⟨by decide, hp⟩
  clear hp
  rintro i s ⟨hi, hp⟩
  refine Sm.seq ?_
  refine Sm.seqW ?_
  conv => whnf
  refine Sm.ofW ?_
  conv => whnf
  refine Br.mk (fun hc => ?_) (fun hc => ?_)
  · have hc : i < 10 := by have h : (i : Int) < 10 := of_decide_eq_true hc; omega
    conv => whnf
    refine Sm.seq ?_
    refine Sm.block ?_
    refine Sm.seqW ?_
    conv => whnf
    refine Om.of _ (str_index Tryd.underlying9 (l := figs) (i := i) hc .i64) ?_
    conv => whnf
    rw [figs_at i hc]
    refine Sm.live [0, 2, 4, 5] ?_
    conv => whnf
    refine Sm.seq ?_
    refine Sm.seqW ?_
    conv => whnf
    refine Sm.ofW ?_
    conv => whnf
    refine Br.no (decide_eq_false (by omega)) ?_
    conv => whnf
    refine Sm.ofW ?_
    conv => whnf
    have hix : evIndexAddr Tryd.prog 141 (.pointer (some ⟨p2, 0, none⟩)) (.int .u8 ((48 + i : Nat) : Int)) = some (.pointer (some ⟨p2, 0 + (48 + i), none⟩)) := ixA Tryd.underlying141 (by rfl) rfl .u8 (by omega)
    refine Om.of _ (hix) ?_
    conv => whnf
    refine hp.store (by repeat (first | exact Rm.here | apply Rm.there)) (by rw [natB_len, figB_len]; omega) rfl rfl rfl rfl ?_
    clear hp
    intro s hp _
    rw [show 0 + (48 + i) = 48 + i by omega, natB_set, figB_step i hc] at hp
    conv => whnf
    refine Sm.ofW ?_
    conv => whnf
    have ei : IntKind.i64.wrap ((i : Int) + 1) = ((i + 1 : Nat) : Int) := by rw [wi64 (by omega) (by omega)]; push_cast; rfl
    exact ⟨i + 1, by (show 10 - (i + 1) < 10 - i); omega, subK_ok (by refine ⟨rfl, rfl, congrArg (fun x => some (Value.int .i64 x)) ei, trivial⟩), by omega, hp⟩
  · have hc : ¬ i < 10 := by have h : ¬ (i : Int) < 10 := of_decide_eq_false hc; omega
    obtain rfl : i = 10 := by omega
    conv => whnf
    refine Sm.seqW ?_
    conv => whnf
    refine hp.loadA (l := natB (figB 10)) (by repeat (first | exact Has.here | apply Has.there | (apply Has.swap; repeat (first | exact HasR.here | apply HasR.there)))) rfl (sl_all (by rw [natB_len, figB_len]; rfl)) rfl rfl ?_
    conv => whnf
    refine hp.storeW (vs := natB (figB 10)) rfl (by repeat (first | exact Rm.here | apply Rm.there)) rfl rfl (by rw [natB_len, figB_len]; rfl) (by kernel_rfl) ?_
    clear hp
    intro s hp _
    conv => whnf
    refine Sm.ofW ?_
    conv => whnf
    refine hp.loadA (l := natB (figB 10)) (by repeat (first | exact Has.here | apply Has.there | (apply Has.swap; repeat (first | exact HasR.here | apply HasR.there)))) rfl (sl_all (by rw [natB_len, figB_len]; rfl)) rfl rfl ?_
    conv => whnf
    exact ⟨hp.fr, rfl⟩
theorem contains_spec {s : St} {k p e : Nat} (hb : Blk s k p (natB (figB 10)) e) (c : UInt8) : Cw Tryd.prog 118 [.pointer (some ⟨p, 0, none⟩), .int .u8 ((c.toNat : Nat) : Int)] s fun r s' => s' = s ∧ r = .bool (isD c) := by
  have hc := c.toNat_lt
  refine Cw.enterS Tryd.func118 rfl rfl ?_
  refine Sm.seqW ?_
  conv => whnf
  refine Sm.seqW ?_
  conv => whnf
  have hix : evIndexAddr Tryd.prog 141 (.pointer (some ⟨p, 0, none⟩)) (.int .u8 ((c.toNat : Nat) : Int)) = some (.pointer (some ⟨p, 0 + c.toNat, none⟩)) := ixA Tryd.underlying141 (by rfl) rfl .u8 hc
  refine Om.of _ (hix) ?_
  conv => whnf
  refine Om.of _ (load_cell (v := .bool (isD c)) Tryd.underlying4 rfl rfl hb.rd (by rw [Nat.zero_add]; exact figB_get hc)) ?_
  conv => whnf
  refine Sm.ofW ?_
  conv => whnf
  exact ⟨rfl, rfl⟩
end Go.Ev
end

/- Texts: Trim of figures; dec.run. No condition. -/
noncomputable section
namespace Go.Ev
open Go.Proofs
variable [Lk]
set_option linter.unusedSectionVars false
set_option linter.unusedVariables false
set_option maxRecDepth 100000

def dropR (l : List UInt8) : List UInt8 := (l.reverse.dropWhile isD).reverse
theorem dropR_snoc (l : List UInt8) {c : UInt8} (h : isD c = true) : dropR (l ++ [c]) = dropR l := by simp [dropR, h]
theorem dropR_keep (l : List UInt8) {c : UInt8} (h : isD c = false) : dropR (l ++ [c]) = l ++ [c] := by simp [dropR, h]
theorem dw_all : ∀ L : List UInt8, (∀ x ∈ L.dropWhile isD, isD x = true) → ∀ x ∈ L, isD x = true
  | [], _ => by simp
  | a :: L, h => by
    by_cases ha : isD a = true
    · rw [List.dropWhile_cons_of_pos ha] at h
      intro x hx
      rcases List.mem_cons.1 hx with rfl | hx
      · exact ha
      · exact dw_all L h x hx
    · rw [List.dropWhile_cons_of_neg ha] at h
      exact absurd (h a (by simp)) ha
theorem dw_nil : ∀ L : List UInt8, L.dropWhile isD = [] ↔ ∀ x ∈ L, isD x = true
  | [] => by simp
  | a :: L => by
    by_cases ha : isD a = true
    · rw [List.dropWhile_cons_of_pos ha, dw_nil L]
      simp [ha]
    · rw [List.dropWhile_cons_of_neg ha]
      simp [ha]
theorem trim_nil (l : List UInt8) : ((dropR l).dropWhile isD == []) = l.all isD := by
  rw [Bool.eq_iff_iff, beq_iff_eq, dw_nil, List.all_eq_true]
  unfold dropR
  constructor
  · intro h x hx
    exact dw_all l.reverse (fun y hy => h y (by simpa using hy)) x (by simpa using hx)
  · intro h x hx
    rw [List.mem_reverse] at hx
    exact h x (by simpa using (List.dropWhile_sublist isD).subset hx)
theorem trimLeft_spec {s : St} {k p e : Nat} (hb : Blk s k p (natB (figB 10)) e) (l : List UInt8) : Cw Tryd.prog 102 [sv l, .pointer (some ⟨p, 0, none⟩)] s fun r s' => s' = s ∧ r = sv (l.dropWhile isD) := by
  refine Cw.enterS Tryd.func102 rfl rfl ?_
  refine Sm.seqW ?_
  conv => whnf
  refine Sm.seq ?_
  refine Sm.block ?_
  refine Sm.loop ?_
  refine Lp.ofS (α := List UInt8) (fun m => [(0, sv m), (1, .pointer (some ⟨p, 0, none⟩))]) (fun m s' => s' = s ∧ l.dropWhile isD = m.dropWhile isD) (fun m => m.length) ?_ l (subK_ok (by refine ⟨rfl, rfl, trivial⟩)) ⟨rfl, rfl⟩
  rintro m s1 ⟨h1, hm⟩
  obtain rfl := h1.symm
  cases m with
  | nil =>
    refine Sm.seq ?_
    refine Sm.seqW ?_
    conv => whnf
    refine Sm.ofW ?_
    conv => whnf
    repeat (first | (refine Br.yes (by first | with_reducible rfl | with_reducible exact beq_self_eq_true _ | rfl) ?_; conv => whnf) | (refine Br.no (by first | with_reducible rfl | with_reducible exact bne_self_eq_false _ | rfl) ?_; conv => whnf))
    refine Sm.seqW ?_
    conv => whnf
    refine Sm.ofW ?_
    conv => whnf
    exact ⟨rfl, by rw [hm]; rfl⟩
  | cons c m =>
    have hd : decide ((((c :: m) : List UInt8).length : Int) > 0) = true := decide_eq_true (by simp)
    refine Sm.seq ?_
    refine Sm.seqW ?_
    conv => whnf
    refine Sm.ofW ?_
    conv => whnf
    refine Br.yes (hd) ?_
    conv => whnf
    refine Sm.block ?_
    refine Sm.seq ?_
    refine Sm.seqW ?_
    conv => whnf
    refine Om.of _ (str_index Tryd.underlying9 (l := c :: m) (i := 0) (by simp) .i64) ?_
    conv => whnf
    refine (contains_spec hb c).mono ?_
    rintro _ s1 ⟨h1, rfl⟩
    obtain rfl := h1.symm
    conv => whnf
    refine Sm.ofW ?_
    conv => whnf
    cases hcd : isD c with
    | false =>
      repeat (first | (refine Br.yes (by first | with_reducible rfl | with_reducible exact beq_self_eq_true _ | rfl) ?_; conv => whnf) | (refine Br.no (by first | with_reducible rfl | with_reducible exact bne_self_eq_false _ | rfl) ?_; conv => whnf))
      refine Sm.seqW ?_
      conv => whnf
      refine Sm.ofW ?_
      conv => whnf
      refine ⟨rfl, ?_⟩
      rw [hm, List.dropWhile_cons_of_neg (by rw [hcd]; decide)]
      rfl
    | true =>
      repeat (first | (refine Br.yes (by first | with_reducible rfl | with_reducible exact beq_self_eq_true _ | rfl) ?_; conv => whnf) | (refine Br.no (by first | with_reducible rfl | with_reducible exact bne_self_eq_false _ | rfl) ?_; conv => whnf))
      refine Sm.ofW ?_
      conv => whnf
      refine Om.of _ (str_drop Tryd.underlying9 (l := c :: m) (j := 1) .i64 (by simp)) ?_
      conv => whnf
      exact ⟨m, by simp, subK_ok (by refine ⟨rfl, rfl, trivial⟩), rfl, by rw [hm, List.dropWhile_cons_of_pos hcd]⟩
theorem trimRight_spec {s : St} {k p e : Nat} (hb : Blk s k p (natB (figB 10)) e) (l : List UInt8) (hl : l.length < 4611686018427387904) : Cw Tryd.prog 103 [sv l, .pointer (some ⟨p, 0, none⟩)] s fun r s' => s' = s ∧ r = sv (dropR l) := by
  refine Cw.enterS Tryd.func103 rfl rfl ?_
  refine Sm.seqW ?_
  conv => whnf
  refine Sm.seq ?_
  refine Sm.block ?_
  refine Sm.loop ?_
  refine Lp.ofS (α := List UInt8) (fun m => [(0, sv m), (1, .pointer (some ⟨p, 0, none⟩))]) (fun m s' => s' = s ∧ m.length ≤ l.length ∧ dropR l = dropR m) (fun m => m.length) ?_ l (subK_ok (by refine ⟨rfl, rfl, trivial⟩)) ⟨rfl, Nat.le_refl _, rfl⟩
  rintro m s1 ⟨h1, hml, hm⟩
  obtain rfl := h1.symm
  by_cases h0 : m = []
  · subst h0
    refine Sm.seq ?_
    refine Sm.seqW ?_
    conv => whnf
    refine Sm.ofW ?_
    conv => whnf
    repeat (first | (refine Br.yes (by first | with_reducible rfl | with_reducible exact beq_self_eq_true _ | rfl) ?_; conv => whnf) | (refine Br.no (by first | with_reducible rfl | with_reducible exact bne_self_eq_false _ | rfl) ?_; conv => whnf))
    refine Sm.seqW ?_
    conv => whnf
    refine Sm.ofW ?_
    conv => whnf
    exact ⟨rfl, by rw [hm]; rfl⟩
  · obtain ⟨m, c, rfl⟩ : ∃ m' c, m = m' ++ [c] := ⟨m.dropLast, m.getLast h0, (List.dropLast_concat_getLast h0).symm⟩
    have hlen : (m ++ [c]).length = m.length + 1 := by simp
    have hd : decide (((m ++ [c]).length : Int) > 0) = true := decide_eq_true (by omega)
    have ek : IntKind.i64.wrap (((bs ⟨(m ++ [c]).toArray⟩).length : Int) - 1) = (m.length : Int) := by rw [bs_mk, hlen, wi64 (by omega) (by omega)]; omega
    have hg : (m ++ [c])[m.length]'(by omega) = c := by simp
    refine Sm.seq ?_
    refine Sm.seqW ?_
    conv => whnf
    refine Sm.ofW ?_
    conv => whnf
    refine Br.yes (hd) ?_
    conv => whnf
    refine Sm.block ?_
    refine Sm.seq ?_
    refine Sm.seqW ?_
    conv => whnf
    rw [ek]
    refine Om.of _ (str_index Tryd.underlying9 (l := m ++ [c]) (i := m.length) (by omega) .i64) ?_
    conv => whnf
    rw [hg]
    refine (contains_spec hb c).mono ?_
    rintro _ s1 ⟨h1, rfl⟩
    obtain rfl := h1.symm
    conv => whnf
    refine Sm.ofW ?_
    conv => whnf
    cases hcd : isD c with
    | false =>
      repeat (first | (refine Br.yes (by first | with_reducible rfl | with_reducible exact beq_self_eq_true _ | rfl) ?_; conv => whnf) | (refine Br.no (by first | with_reducible rfl | with_reducible exact bne_self_eq_false _ | rfl) ?_; conv => whnf))
      refine Sm.seqW ?_
      conv => whnf
      refine Sm.ofW ?_
      conv => whnf
      refine ⟨rfl, ?_⟩
      rw [hm, dropR_keep m hcd]
      rfl
    | true =>
      repeat (first | (refine Br.yes (by first | with_reducible rfl | with_reducible exact beq_self_eq_true _ | rfl) ?_; conv => whnf) | (refine Br.no (by first | with_reducible rfl | with_reducible exact bne_self_eq_false _ | rfl) ?_; conv => whnf))
      refine Sm.ofW ?_
      conv => whnf
      rw [ek]
      refine Om.of _ (str_take Tryd.underlying9 (l := m ++ [c]) (j := m.length) .i64 (by omega)) ?_
      conv => whnf
      have ht : (m ++ [c]).take m.length = m := by simp
      rw [ht]
      conv => whnf
      exact ⟨m, by (show m.length < (m ++ [c]).length); omega, subK_ok (by refine ⟨rfl, rfl, trivial⟩), rfl, by omega, by rw [hm, dropR_snoc m hcd]⟩
theorem trimF_spec {z : St} (wf : WF z) (l : List UInt8) (hl : l.length < 4611686018427387904) : Cw Tryd.prog 78 [sv l, sv figs] z fun r s' => K0 z s' ∧ r = sv ((dropR l).dropWhile isD) := by
  have hp : Hp (fun _ => False) z [] [] z := Hp.start _ wf _ (by simp)
  refine Cw.enterS Tryd.func78 rfl rfl ?_
  refine Sm.seqW ?_
  conv => whnf
  refine Sm.seq ?_
  refine Sm.seqW ?_
  conv => whnf
  refine Om.of _ (sv_eq l []) ?_
  conv => whnf
  by_cases h0 : l = []
  · subst h0
    have hq : (([] : List UInt8) == []) = true := rfl
    rw [hq]
    repeat (first | (refine Br.yes (by first | with_reducible rfl | with_reducible exact beq_self_eq_true _ | rfl) ?_; conv => whnf) | (refine Br.no (by first | with_reducible rfl | with_reducible exact bne_self_eq_false _ | rfl) ?_; conv => whnf))
    refine Sm.ofW ?_
    conv => whnf
    repeat (first | (refine Br.yes (by first | with_reducible rfl | with_reducible exact beq_self_eq_true _ | rfl) ?_; conv => whnf) | (refine Br.no (by first | with_reducible rfl | with_reducible exact bne_self_eq_false _ | rfl) ?_; conv => whnf))
    exact ⟨hp.fr, rfl⟩
  have hq : (l == []) = false := beq_eq_false_iff_ne.2 h0
  rw [hq]
  repeat (first | (refine Br.yes (by first | with_reducible rfl | with_reducible exact beq_self_eq_true _ | rfl) ?_; conv => whnf) | (refine Br.no (by first | with_reducible rfl | with_reducible exact bne_self_eq_false _ | rfl) ?_; conv => whnf))
  refine Om.of _ (sv_eq figs []) ?_
  conv => whnf
  repeat (first | (refine Br.yes (by first | with_reducible rfl | with_reducible exact beq_self_eq_true _ | rfl) ?_; conv => whnf) | (refine Br.no (by first | with_reducible rfl | with_reducible exact bne_self_eq_false _ | rfl) ?_; conv => whnf))
  refine Sm.ofW ?_
  conv => whnf
  repeat (first | (refine Br.yes (by first | with_reducible rfl | with_reducible exact beq_self_eq_true _ | rfl) ?_; conv => whnf) | (refine Br.no (by first | with_reducible rfl | with_reducible exact bne_self_eq_false _ | rfl) ?_; conv => whnf))
  refine Sm.seq ?_
  refine Sm.seqW ?_
  conv => whnf
  repeat (first | (refine Br.yes (by first | with_reducible rfl | with_reducible exact beq_self_eq_true _ | rfl) ?_; conv => whnf) | (refine Br.no (by first | with_reducible rfl | with_reducible exact bne_self_eq_false _ | rfl) ?_; conv => whnf))
  refine Sm.ofW ?_
  conv => whnf
  repeat (first | (refine Br.yes (by first | with_reducible rfl | with_reducible exact beq_self_eq_true _ | rfl) ?_; conv => whnf) | (refine Br.no (by first | with_reducible rfl | with_reducible exact bne_self_eq_false _ | rfl) ?_; conv => whnf))
  refine Sm.seq ?_
  refine Sm.seqW ?_
  conv => whnf
  refine hp.call (asciiSet_spec hp.wf) ?_
  clear hp
  rintro _ s rfl hp _
  conv => whnf
  refine hp.alloc (cs := natB (figB 0)) (e := 1) rfl rfl rfl (by kernel_rfl) rfl ?_
  clear hp
  intro p5 s hp _
  conv => whnf
  refine hp.storeW (C := natB (figB 0)) (vs := natB (figB 10)) rfl (by repeat (first | exact Rm.here | apply Rm.there)) (by rw [natB_len, natB_len, figB_len, figB_len]) rfl (by rw [natB_len, figB_len]; rfl) (by kernel_rfl) ?_
  clear hp
  intro s hp _
  conv => whnf
  refine Sm.seqW ?_
  conv => whnf
  refine Sm.ofW ?_
  conv => whnf
  repeat (first | (refine Br.yes (by first | with_reducible rfl | with_reducible exact beq_self_eq_true _ | rfl) ?_; conv => whnf) | (refine Br.no (by first | with_reducible rfl | with_reducible exact bne_self_eq_false _ | rfl) ?_; conv => whnf))
  refine (trimRight_spec (hp.blk (k := p5) (by repeat (first | exact Has.here | apply Has.there | (apply Has.swap; repeat (first | exact HasR.here | apply HasR.there))))) l hl).mono ?_
  rintro _ s1 ⟨h1, rfl⟩
  obtain rfl := h1.symm
  conv => whnf
  refine (trimLeft_spec (hp.blk (k := p5) (by repeat (first | exact Has.here | apply Has.there | (apply Has.swap; repeat (first | exact HasR.here | apply HasR.there))))) (dropR l)).mono ?_
  rintro _ s1 ⟨h1, rfl⟩
  obtain rfl := h1.symm
  conv => whnf
  exact ⟨hp.fr, rfl⟩
def runF (l : List UInt8) (most : Nat) : Bool := !(l == []) && (decide (l.length ≤ most) && l.all isD)
theorem run_spec {z : St} (wf : WF z) (l : List UInt8) (hl : l.length < 4611686018427387904) (most : Nat) : Cw Tryd.prog 60 [sv l, .int .i64 (most : Int)] z fun r s' => K0 z s' ∧ r = .bool (runF l most) := by
  have hp : Hp (fun _ => False) z [] [] z := Hp.start _ wf _ (by simp)
  refine Cw.enterS Tryd.func60 rfl rfl ?_
  refine Sm.seqW ?_
  conv => whnf
  refine Sm.seqW ?_
  conv => whnf
  refine Om.of _ (sv_ne l []) ?_
  conv => whnf
  unfold runF
  by_cases h0 : l = []
  · subst h0
    have hq : (!(([] : List UInt8) == [])) = false := rfl
    rw [hq]
    repeat (first | (refine Br.yes (by first | with_reducible rfl | with_reducible exact beq_self_eq_true _ | rfl) ?_; conv => whnf) | (refine Br.no (by first | with_reducible rfl | with_reducible exact bne_self_eq_false _ | rfl) ?_; conv => whnf))
    refine Sm.ofW ?_
    conv => whnf
    exact ⟨hp.fr, rfl⟩
  have hq : (!(l == [])) = true := by rw [beq_eq_false_iff_ne.2 h0]; rfl
  rw [hq]
  repeat (first | (refine Br.yes (by first | with_reducible rfl | with_reducible exact beq_self_eq_true _ | rfl) ?_; conv => whnf) | (refine Br.no (by first | with_reducible rfl | with_reducible exact bne_self_eq_false _ | rfl) ?_; conv => whnf))
  by_cases hm : l.length ≤ most
  · have hd : decide ((l.length : Int) ≤ (most : Int)) = true := decide_eq_true (by omega)
    repeat (first | (refine Br.yes hd ?_; conv => whnf) | (first | (refine Br.yes (by first | with_reducible rfl | with_reducible exact beq_self_eq_true _ | rfl) ?_; conv => whnf) | (refine Br.no (by first | with_reducible rfl | with_reducible exact bne_self_eq_false _ | rfl) ?_; conv => whnf)))
    refine hp.call (trimF_spec hp.wf l hl) ?_
    clear hp
    rintro _ s rfl hp _
    conv => whnf
    repeat (first | (refine Br.yes hd ?_; conv => whnf) | (first | (refine Br.yes (by first | with_reducible rfl | with_reducible exact beq_self_eq_true _ | rfl) ?_; conv => whnf) | (refine Br.no (by first | with_reducible rfl | with_reducible exact bne_self_eq_false _ | rfl) ?_; conv => whnf)))
    refine Om.of _ (sv_eq ((dropR l).dropWhile isD) []) ?_
    conv => whnf
    repeat (first | (refine Br.yes hd ?_; conv => whnf) | (first | (refine Br.yes (by first | with_reducible rfl | with_reducible exact beq_self_eq_true _ | rfl) ?_; conv => whnf) | (refine Br.no (by first | with_reducible rfl | with_reducible exact bne_self_eq_false _ | rfl) ?_; conv => whnf)))
    refine Sm.ofW ?_
    conv => whnf
    refine ⟨hp.fr, congrArg Value.bool ?_⟩
    rw [trim_nil, decide_eq_true hm]
    rfl
  · have hd : decide ((l.length : Int) ≤ (most : Int)) = false := decide_eq_false (by omega)
    repeat (first | (refine Br.no hd ?_; conv => whnf) | (first | (refine Br.yes (by first | with_reducible rfl | with_reducible exact beq_self_eq_true _ | rfl) ?_; conv => whnf) | (refine Br.no (by first | with_reducible rfl | with_reducible exact bne_self_eq_false _ | rfl) ?_; conv => whnf)))
    refine Sm.ofW ?_
    conv => whnf
    refine ⟨hp.fr, congrArg Value.bool ?_⟩
    rw [decide_eq_false hm]
    rfl
end Go.Ev
end

/- dec.Read walked. No condition. -/
noncomputable section
namespace Go.Ev
open Go.Proofs
variable [Lk]
set_option linter.unusedSectionVars false
set_option linter.unusedVariables false
set_option maxRecDepth 100000

/-- What figures are worth. -/
def valD (l : List UInt8) : Nat := l.foldl (fun a b => 10 * a + (b.toNat - 48)) 0
theorem valD_snoc (l : List UInt8) (c : UInt8) : valD (l ++ [c]) = 10 * valD l + (c.toNat - 48) := by simp [valD]
def bodyF (l : List UInt8) : List UInt8 := if hasP l [45] = true then l.drop 1 else l
def wholeF (b : List UInt8) : List UInt8 := match idxL 46 b 0 with
  | some i => b.take i
  | none => b
def restF (b : List UInt8) : List UInt8 := match idxL 46 b 0 with
  | some i => b.drop (i + 1)
  | none => []
def pointF (b : List UInt8) : Bool := (idxL 46 b 0).isSome
def readOk (b : List UInt8) : Bool := runF (wholeF b) 30 && (!pointF b || runF (restF b) 9)
def readF (l : List UInt8) : Value :=
  if readOk (bodyF l) = false then errD 2 else if 10 ^ 30 ≤ valD (wholeF (bodyF l) ++ restF (bodyF l)) then errD 3
  else if (hasP l [45] && decide (valD (wholeF (bodyF l) ++ restF (bodyF l)) = 0)) = true then errD 2 else okD ⟨hasP l [45], valD (wholeF (bodyF l) ++ restF (bodyF l)), (restF (bodyF l)).length⟩
theorem cutP_eq (l : List UInt8) : cutP l [45] = .tuple #[sv (bodyF l), .bool (hasP l [45])] := by
  unfold cutP bodyF
  cases hasP l [45] <;> rfl
theorem cutF_eq (b : List UInt8) : cutF b 46 = .tuple #[sv (wholeF b), sv (restF b), .bool (pointF b)] := by
  unfold cutF wholeF restF pointF
  show (match idxL 46 b 0 with
    | some i => Value.tuple #[sv (b.take i), sv (b.drop (i + 1)), .bool true]
    | none => .tuple #[sv b, sv [], .bool false]) = _
  cases idxL 46 b 0 <;> rfl
theorem body_len (l : List UInt8) : (bodyF l).length ≤ l.length := by
  unfold bodyF; split <;> simp
theorem whole_len (b : List UInt8) : (wholeF b).length ≤ b.length := by
  unfold wholeF; split <;> simp; omega
theorem rest_len (b : List UInt8) : (restF b).length ≤ b.length := by
  unfold restF; split <;> simp
theorem runF_ok {l : List UInt8} {m : Nat} (h : runF l m = true) : l ≠ [] ∧ l.length ≤ m ∧ ∀ x ∈ l, isD x = true := by
  unfold runF at h
  simp only [Bool.and_eq_true, Bool.not_eq_true', beq_eq_false_iff_ne, decide_eq_true_eq, List.all_eq_true] at h
  exact h
theorem readOk_ok {b : List UInt8} (h : readOk b = true) : (wholeF b ++ restF b).length ≤ 39 ∧ ∀ x ∈ wholeF b ++ restF b, isD x = true := by
  unfold readOk at h
  simp only [Bool.and_eq_true, Bool.or_eq_true, Bool.not_eq_true'] at h
  obtain ⟨_, h1, h2⟩ := runF_ok h.1
  rcases h.2 with g | g
  · have : restF b = [] := by
      unfold pointF at g
      unfold restF
      cases hi : idxL 46 b 0 with
      | none => rfl
      | some i => rw [hi] at g; cases g
    rw [this, List.append_nil]
    exact ⟨by omega, h2⟩
  · obtain ⟨_, g1, g2⟩ := runF_ok g
    refine ⟨by simp; omega, fun x hx => ?_⟩
    rcases List.mem_append.1 hx with k | k
    · exact h2 x k
    · exact g2 x k
theorem BD : SlT Tryd.prog 28 5 1 1 (.int .u8 0) := ⟨Tryd.underlying28, ⟨_, rfl, rfl, rfl, rfl⟩, rfl, rfl, by decide, by decide⟩
theorem isD_d {c : UInt8} (h : isD c = true) : 48 ≤ c.toNat ∧ c.toNat ≤ 57 := of_decide_eq_true h
/-- What stands while figures are read. -/
structure RdOk (W : List UInt8) (i c : Nat) (over : Bool) : Prop where
  c30 : c < 10 ^ 30
  ov : over = decide (10 ^ 30 ≤ valD (W.take i))
  val : over = false → c = valD (W.take i)
theorem read_spec {z : St} (wf : WF z) (l : List UInt8) (hl : l.length < 4611686018427387904) : Cw Tryd.prog 50 [sv l] z fun r s' => K0 z s' ∧ r = readF l := by
  have hp : Hp (fun _ => False) z [] [] z := Hp.start _ wf _ (by simp)
  have hb := body_len l
  have hw := whole_len (bodyF l)
  have hr := rest_len (bodyF l)
  refine Cw.enterS Tryd.func50 rfl rfl ?_
  refine Sm.seqW ?_
  conv => whnf
  refine hp.alloc (cs := Dc.zero.cells) (e := 4) rfl rfl rfl rfl rfl ?_
  clear hp
  intro p2 s hp _
  conv => whnf
  refine Sm.live [0, 2] ?_
  conv => whnf
  refine Sm.seqW ?_
  conv => whnf
  refine (cutPrefix_spec _ l [45]).mono ?_
  rintro _ s1 ⟨h1, rfl⟩
  obtain rfl := h1.symm
  conv => whnf
  rw [cutP_eq]
  conv => whnf
  refine Sm.live [2, 4, 5] ?_
  conv => whnf
  refine Sm.seqW ?_
  conv => whnf
  refine (cut_spec _ (bodyF l) (by omega) 46).mono ?_
  rintro _ s1 ⟨h1, rfl⟩
  obtain rfl := h1.symm
  conv => whnf
  rw [cutF_eq]
  conv => whnf
  refine Sm.live [2, 5, 6, 7, 8] ?_
  conv => whnf
  have hread : readF l = if readOk (bodyF l) = false then errD 2 else if 10 ^ 30 ≤ valD (wholeF (bodyF l) ++ restF (bodyF l)) then errD 3
    else if (hasP l [45] && decide (valD (wholeF (bodyF l) ++ restF (bodyF l)) = 0)) = true then errD 2 else okD ⟨hasP l [45], valD (wholeF (bodyF l) ++ restF (bodyF l)), (restF (bodyF l)).length⟩ := rfl
  have hokk := readOk_ok (b := bodyF l)
  have hdef : readOk (bodyF l) = (runF (wholeF (bodyF l)) 30 && (!pointF (bodyF l) || runF (restF (bodyF l)) 9)) := rfl
  generalize wholeF (bodyF l) = W at *
  generalize restF (bodyF l) = R at *
  generalize pointF (bodyF l) = pt at *
  generalize hasP l [45] = ng at *
  generalize readOk (bodyF l) = ok at *
  generalize readF l = RF at *
  refine Sm.seq ?_
  refine Sm.seqC (fun e L' s' => e = .normal ∧ Hp (fun _ => False) z [] [blkA p2 p2 Dc.zero.cells 4] s' ∧ Sub [(2, .pointer (some ⟨p2, 0, none⟩)), (5, .bool ng), (6, sv W), (7, sv R), (37, .bool (!ok))] L') ?_ ?_
  · conv => whnf
    refine hp.call (run_spec hp.wf W (by omega) 30) ?_
    clear hp
    rintro _ s rfl hp _
    conv => whnf
    cases h1 : runF W 30 with
    | false =>
      have : ok = false := by rw [hdef, h1]; rfl
      subst this
      repeat (first | (refine Br.yes (by first | with_reducible rfl | with_reducible exact beq_self_eq_true _ | rfl) ?_; conv => whnf) | (refine Br.no (by first | with_reducible rfl | with_reducible exact bne_self_eq_false _ | rfl) ?_; conv => whnf))
      exact ⟨rfl, hp, subK_ok ⟨rfl, rfl, rfl, rfl, rfl, trivial⟩⟩
    | true =>
      repeat (first | (refine Br.yes (by first | with_reducible rfl | with_reducible exact beq_self_eq_true _ | rfl) ?_; conv => whnf) | (refine Br.no (by first | with_reducible rfl | with_reducible exact bne_self_eq_false _ | rfl) ?_; conv => whnf))
      cases pt with
      | false =>
        have : ok = true := by rw [hdef, h1]; rfl
        subst this
        repeat (first | (refine Br.yes (by first | with_reducible rfl | with_reducible exact beq_self_eq_true _ | rfl) ?_; conv => whnf) | (refine Br.no (by first | with_reducible rfl | with_reducible exact bne_self_eq_false _ | rfl) ?_; conv => whnf))
        exact ⟨rfl, hp, subK_ok ⟨rfl, rfl, rfl, rfl, rfl, trivial⟩⟩
      | true =>
        repeat (first | (refine Br.yes (by first | with_reducible rfl | with_reducible exact beq_self_eq_true _ | rfl) ?_; conv => whnf) | (refine Br.no (by first | with_reducible rfl | with_reducible exact bne_self_eq_false _ | rfl) ?_; conv => whnf))
        refine hp.call (run_spec hp.wf R (by omega) 9) ?_
        clear hp
        rintro _ s rfl hp _
        conv => whnf
        have : ok = runF R 9 := by rw [hdef, h1]; rfl
        rw [← this]
        repeat (first | (refine Br.yes (by first | with_reducible rfl | with_reducible exact beq_self_eq_true _ | rfl) ?_; conv => whnf) | (refine Br.no (by first | with_reducible rfl | with_reducible exact bne_self_eq_false _ | rfl) ?_; conv => whnf))
        exact ⟨rfl, hp, subK_ok ⟨rfl, rfl, rfl, rfl, rfl, trivial⟩⟩
  clear hp
  rintro e L' s ⟨rfl, hp, hs⟩
  refine Sm.weak _ hs ?_
  clear hs
  refine Sm.ofW ?_
  conv => whnf
  cases ok with
  | false =>
    repeat (first | (refine Br.yes (by first | with_reducible rfl | with_reducible exact beq_self_eq_true _ | rfl) ?_; conv => whnf) | (refine Br.no (by first | with_reducible rfl | with_reducible exact bne_self_eq_false _ | rfl) ?_; conv => whnf))
    refine hp.storeW (vs := Dc.zero.cells) rfl (by repeat (first | exact Rm.here | apply Rm.there)) (by first | exact C2_same _ _ _ _ | exact C4_same _ _ _ _ _ _ _ _ | exact Dc_same _ _ | rfl) rfl rfl rfl ?_
    clear hp
    intro s hp _
    conv => whnf
    refine hp.loadA (l := Dc.zero.cells) (by repeat (first | exact Has.here | apply Has.there | (apply Has.swap; repeat (first | exact HasR.here | apply HasR.there)))) rfl (by rfl) rfl rfl ?_
    conv => whnf
    refine ⟨hp.fr, ?_⟩
    rw [hread, if_pos rfl]
    rfl
  | true =>
    rw [if_neg (by decide)] at hread
    obtain ⟨h39, hall⟩ := hokk rfl
    repeat (first | (refine Br.yes (by first | with_reducible rfl | with_reducible exact beq_self_eq_true _ | rfl) ?_; conv => whnf) | (refine Br.no (by first | with_reducible rfl | with_reducible exact bne_self_eq_false _ | rfl) ?_; conv => whnf))
    refine Sm.seqW ?_
    conv => whnf
    refine hp.call (lOf_spec hp.wf (a := 0) (by decide)) ?_
    clear hp
    rintro _ s rfl hp _
    conv => whnf
    refine hp.alloc (cs := C2 0 0) (e := 1) rfl rfl rfl rfl rfl ?_
    clear hp
    intro p9 s hp _
    conv => whnf
    refine hp.storeW (vs := C2 (0 % w64) (0 / w64)) rfl (by repeat (first | exact Rm.here | apply Rm.there)) (by first | exact C2_same _ _ _ _ | exact C4_same _ _ _ _ _ _ _ _ | exact Dc_same _ _ | rfl) rfl rfl rfl ?_
    clear hp
    intro s hp _
    conv => whnf
    refine Sm.live [2, 5, 6, 7, 9, 10] ?_
    conv => whnf
    refine Sm.seq ?_
    refine Sm.seqW ?_
    conv => whnf
    refine Om.of _ (str_add ⟨W.toArray⟩ ⟨R.toArray⟩ (by rw [bs_mk, bs_mk]; simp at h39; omega)) ?_
    conv => whnf
    have e0 : bs ⟨(bs ⟨W.toArray⟩ ++ bs ⟨R.toArray⟩).toArray⟩ = W ++ R := rfl
    refine hp.bytesOf Tryd.underlying9 Tryd.underlying28 Tryd.underlying5 ⟨(bs ⟨W.toArray⟩ ++ bs ⟨R.toArray⟩).toArray⟩ ?_
    clear hp
    intro pb s hp _
    rw [e0] at hp ⊢
    generalize hWR : W ++ R = Y at *
    conv => whnf
    refine Sm.block ?_
    refine Sm.loop ?_
    refine Lp.ofS (α := Nat × Nat × Bool) (fun x => [(2, .pointer (some ⟨p2, 0, none⟩)), (5, .bool ng), (7, sv R), (9, .pointer (some ⟨p9, 0, none⟩)), (10, .bool x.2.2), (43, .slice (some ⟨pb, 0, none⟩) Y.length Y.length), (44, .int .i64 (Y.length : Int)), (45, .int .i64 (x.1 : Int))])
      (fun x s' => x.1 ≤ Y.length ∧ RdOk Y x.1 x.2.1 x.2.2 ∧ Hp (fun _ => False) z [] [blkA pb pb (byteVals Y) 1, blkA p9 p9 (C2 (x.2.1 % w64) (x.2.1 / w64)) 1, blkA p2 p2 Dc.zero.cells 4] s') (fun x => Y.length - x.1) ?_ (0, 0, false) (subK_ok (by refine ⟨rfl, rfl, rfl, rfl, rfl, rfl, rfl, rfl, trivial⟩)) ⟨Nat.zero_le _, ⟨by decide, by simp [valD], fun _ => by simp [valD]⟩, hp⟩
    clear hp
    rintro ⟨i, c, ov⟩ s ⟨hi, ok, hp⟩
    simp only at hi ok hp
    refine Sm.seqW ?_
    conv => whnf
    refine Sm.seq ?_
    refine Sm.ofW ?_
    conv => whnf
    refine Br.mk (fun hc => ?_) (fun hc => ?_)
    · have hc : i < Y.length := by have h : (i : Int) < (Y.length : Int) := of_decide_eq_true hc; omega
      obtain ⟨d1, d2⟩ := isD_d (hall Y[i] (List.getElem_mem hc))
      have htake : Y.take (i + 1) = Y.take i ++ [Y[i]] := List.take_succ_eq_append_getElem hc
      have hval : valD (Y.take (i + 1)) = 10 * valD (Y.take i) + (Y[i].toNat - 48) := by rw [htake, valD_snoc]
      have c30 := ok.c30
      conv => whnf
      refine Sm.seq ?_
      refine Sm.block ?_
      refine Sm.seqW ?_
      conv => whnf
      have hix := idx_at (P := Tryd.prog) BD (b := pb) (off := 0) (c := Y.length) .i64 hc
      refine Om.of _ (hix) ?_
      conv => whnf
      refine hp.load (v := .int .u8 ((Y[i].toNat : Nat) : Int)) (by repeat (first | exact Has.here | apply Has.there | (apply Has.swap; repeat (first | exact HasR.here | apply HasR.there)))) (by rw [Nat.zero_add, Nat.mul_one]; simp [byteVals, hc]) rfl rfl rfl ?_
      conv => whnf
      refine Sm.live [2, 5, 7, 9, 10, 12, 43, 44, 45] ?_
      conv => whnf
      refine Sm.seqW ?_
      conv => whnf
      refine ⟨[0, 0, 3, 7, 15, 31, 31, 0, 191, 511], by decide +kernel, by decide +kernel, ?_⟩
      conv => whnf
      refine hp.loadA (l := C2 (c % w64) (c / w64)) (by repeat (first | exact Has.here | apply Has.there | (apply Has.swap; repeat (first | exact HasR.here | apply HasR.there)))) rfl (by rfl) rfl rfl ?_
      conv => whnf
      refine hp.rst.call (lOf_spec hp.rst.wf (a := 10) (by decide)) ?_
      rintro _ s1 rfl h1 k1
      conv => whnf
      refine hp.dkN h1 k1 ?_
      clear hp h1 k1
      intro s hp
      conv => whnf
      refine hp.rst.call (lMul_spec hp.rst.wf (a := c) (b := 10) (Nat.lt_trans c30 (by decide)) (by decide)) ?_
      rintro _ s1 rfl h1 k1
      conv => whnf
      refine hp.dkN h1 k1 ?_
      clear hp h1 k1
      intro s hp
      conv => whnf
      have hcm : c * 10 < w128 := Nat.lt_of_lt_of_le ((Nat.mul_lt_mul_right (by decide)).2 c30) (by decide)
      refine hp.rst.call (lShort_ok hp.rst.wf hcm) ?_
      rintro _ s1 rfl h1 k1
      conv => whnf
      refine hp.dkN h1 k1 ?_
      clear hp h1 k1
      intro s hp
      conv => whnf
      refine hp.rst.alloc (cs := C2 0 0) (e := 1) rfl rfl rfl rfl rfl ?_
      intro p13 s1 h1 k1
      conv => whnf
      refine hp.dkN h1 k1 ?_
      clear hp h1 k1
      intro s hp
      conv => whnf
      refine hp.rst.storeW (vs := C2 (c * 10 % w64) (c * 10 / w64)) rfl (by repeat (first | exact Rm.here | apply Rm.there)) (by first | exact C2_same _ _ _ _ | exact C4_same _ _ _ _ _ _ _ _ | exact Dc_same _ _ | rfl) rfl rfl rfl ?_
      intro s1 h1 l1
      conv => whnf
      refine hp.dkW h1 l1 ?_
      clear hp h1 l1
      intro s hp
      conv => whnf
      refine Sm.live [2, 5, 7, 9, 10, 12, 13, 14, 43, 44, 45] ?_
      conv => whnf
      refine Sm.seqW ?_
      conv => whnf
      refine ⟨[0, 0, 2, 6, 14, 31, 63, 127, 127, 255, 1023], by decide +kernel, by decide +kernel, ?_⟩
      conv => whnf
      refine hp.loadA (l := C2 (c * 10 % w64) (c * 10 / w64)) (by repeat (first | exact Has.here | apply Has.there | (apply Has.swap; repeat (first | exact HasR.here | apply HasR.there)))) rfl (by rfl) rfl rfl ?_
      conv => whnf
      have ed : IntKind.u64.wrap (IntKind.u8.wrap (((Y[i].toNat : Nat) : Int) - 48)) = ((Y[i].toNat - 48 : Nat) : Int) := by rw [wrap_u8i, wrap_u64i]; omega
      obtain ⟨d, hd⟩ : ∃ d, d = Y[i].toNat - 48 := ⟨_, rfl⟩
      have hd9 : d ≤ 9 := by omega
      rw [← hd] at hval ed
      rw [ed]
      refine hp.rst.call (lOf_spec hp.rst.wf (a := d) (by simp only [w64]; omega)) ?_
      rintro _ s1 rfl h1 k1
      conv => whnf
      refine hp.dkN h1 k1 ?_
      clear hp h1 k1
      intro s hp
      conv => whnf
      have hdw : d < w128 := by simp only [w128]; omega
      have hsum : c * 10 + d < w128 := by simp only [w128]; omega
      refine hp.rst.call (lAdd_ok hp.rst.wf hcm hdw hsum) ?_
      rintro _ s1 rfl h1 k1
      conv => whnf
      refine hp.dkN h1 k1 ?_
      clear hp h1 k1
      intro s hp
      conv => whnf
      refine hp.rst.storeW (vs := C2 ((c * 10 + d) % w64) ((c * 10 + d) / w64)) rfl (by repeat (first | exact Rm.here | apply Rm.there)) (by first | exact C2_same _ _ _ _ | exact C4_same _ _ _ _ _ _ _ _ | exact Dc_same _ _ | rfl) rfl rfl rfl ?_
      intro s1 h1 l1
      conv => whnf
      refine hp.dkW h1 l1 ?_
      clear hp h1 l1
      intro s hp
      conv => whnf
      refine Sm.live [2, 5, 7, 9, 10, 13, 14, 15, 43, 44, 45] ?_
      conv => whnf
      have ov2 : ov = true → 10 ^ 30 ≤ valD (Y.take (i + 1)) := fun h => by
        have := ok.ov
        rw [h] at this
        have := of_decide_eq_true this.symm
        rw [hval]; omega
      have nov : ov = false → valD (Y.take (i + 1)) = c * 10 + d := fun h => by rw [hval, ← ok.val h]; omega
      obtain ⟨ov', hov'⟩ : ∃ o, o = decide (10 ^ 30 ≤ valD (Y.take (i + 1))) := ⟨_, rfl⟩
      obtain ⟨c', hc'⟩ : ∃ c', c' = if ov' = true then c else c * 10 + d := ⟨_, rfl⟩
      have ok2 : RdOk Y (i + 1) c' ov' := by
        refine ⟨?_, hov', fun h => ?_⟩
        · rw [hc']
          split
          · exact c30
          · rename_i g
            have g' : ov' = false := by simpa using g
            have h1 : ¬ 10 ^ 30 ≤ valD (Y.take (i + 1)) := by rw [g'] at hov'; exact of_decide_eq_false hov'.symm
            cases hov : ov with
            | true => exact absurd (ov2 hov) h1
            | false => rw [← nov hov]; omega
        · rw [hc', h, if_neg (by decide)]
          have h1 : ¬ 10 ^ 30 ≤ valD (Y.take (i + 1)) := by rw [h] at hov'; exact of_decide_eq_false hov'.symm
          cases hov : ov with
          | true => exact absurd (ov2 hov) h1
          | false => exact (nov hov).symm
      have ei : IntKind.i64.wrap ((i : Int) + 1) = ((i + 1 : Nat) : Int) := by rw [wi64 (by omega) (by omega)]; push_cast; rfl
      refine Sm.seqC (fun e L' s' => e = .normal ∧ Hp (fun _ => False) z [] [blkA pb pb (byteVals Y) 1, blkA p13 p13 (C2 ((c * 10 + d) % w64) ((c * 10 + d) / w64)) 1, blkA p9 p9 (C2 (c % w64) (c / w64)) 1, blkA p2 p2 Dc.zero.cells 4] s' ∧ Sub [(2, .pointer (some ⟨p2, 0, none⟩)), (5, .bool ng), (7, sv R), (9, .pointer (some ⟨p9, 0, none⟩)), (10, .bool ov'), (13, .pointer (some ⟨p13, 0, none⟩)), (43, .slice (some ⟨pb, 0, none⟩) Y.length Y.length), (44, .int .i64 (Y.length : Int)), (45, .int .i64 (i : Int))] L') ?_ ?_
      · conv => whnf
        cases hov : ov with
        | true =>
          have : ov' = true := by rw [hov']; exact decide_eq_true (ov2 hov)
          rw [this]
          repeat (first | (refine Br.yes (by first | with_reducible rfl | with_reducible exact beq_self_eq_true _ | rfl) ?_; conv => whnf) | (refine Br.no (by first | with_reducible rfl | with_reducible exact bne_self_eq_false _ | rfl) ?_; conv => whnf))
          exact ⟨rfl, hp.pik (by repeat (first | exact Pik.nil | exact Pik.refl _ | exact Rm.here | apply Rm.there | apply Pik.cons | apply Pik.skip)), subK_ok ⟨rfl, rfl, rfl, rfl, rfl, rfl, rfl, rfl, rfl, trivial⟩⟩
        | false =>
          repeat (first | (refine Br.yes (by first | with_reducible rfl | with_reducible exact beq_self_eq_true _ | rfl) ?_; conv => whnf) | (refine Br.no (by first | with_reducible rfl | with_reducible exact bne_self_eq_false _ | rfl) ?_; conv => whnf))
          refine hp.loadA (l := C2 ((c * 10 + d) % w64) ((c * 10 + d) / w64)) (by repeat (first | exact Has.here | apply Has.there | (apply Has.swap; repeat (first | exact HasR.here | apply HasR.there)))) rfl (by rfl) rfl rfl ?_
          conv => whnf
          repeat (first | (refine Br.yes (by first | with_reducible rfl | with_reducible exact beq_self_eq_true _ | rfl) ?_; conv => whnf) | (refine Br.no (by first | with_reducible rfl | with_reducible exact bne_self_eq_false _ | rfl) ?_; conv => whnf))
          refine hp.call (small_spec hp.wf hsum) ?_
          clear hp
          rintro _ s rfl hp _
          conv => whnf
          repeat (first | (refine Br.yes (by first | with_reducible rfl | with_reducible exact beq_self_eq_true _ | rfl) ?_; conv => whnf) | (refine Br.no (by first | with_reducible rfl | with_reducible exact bne_self_eq_false _ | rfl) ?_; conv => whnf))
          have : ov' = !decide (c * 10 + d < 10 ^ 30) := by
            rw [hov', nov hov]
            by_cases g : c * 10 + d < 10 ^ 30
            · rw [decide_eq_true g, decide_eq_false (by omega)]; rfl
            · rw [decide_eq_false g, decide_eq_true (by omega)]; rfl
          rw [this]
          exact ⟨rfl, hp.pik (by repeat (first | exact Pik.nil | exact Pik.refl _ | exact Rm.here | apply Rm.there | apply Pik.cons | apply Pik.skip)), subK_ok ⟨rfl, rfl, rfl, rfl, rfl, rfl, rfl, rfl, rfl, trivial⟩⟩
      clear hp
      rintro e L' s ⟨rfl, hp, hs⟩
      refine Sm.weak _ hs ?_
      clear hs
      refine Sm.seqW ?_
      conv => whnf
      refine Sm.ofW ?_
      conv => whnf
      cases hv : ov' with
      | true =>
        rw [hv] at hc' ok2
        rw [if_pos rfl] at hc'
        subst hc'
        repeat (first | (refine Br.yes (by first | with_reducible rfl | with_reducible exact beq_self_eq_true _ | rfl) ?_; conv => whnf) | (refine Br.no (by first | with_reducible rfl | with_reducible exact bne_self_eq_false _ | rfl) ?_; conv => whnf))
        refine Sm.ofW ?_
        conv => whnf
        exact ⟨(i + 1, c', true), by (show Y.length - (i + 1) < Y.length - i); omega, subK_ok (by refine ⟨rfl, rfl, rfl, rfl, rfl, rfl, rfl, congrArg (fun x => some (Value.int .i64 x)) ei, trivial⟩), (by (show i + 1 ≤ Y.length); omega), ok2, hp.pik (by repeat (first | exact Pik.nil | exact Pik.refl _ | exact Rm.here | apply Rm.there | apply Pik.cons | apply Pik.skip))⟩
      | false =>
        rw [hv] at hc' ok2
        rw [if_neg (by decide)] at hc'
        repeat (first | (refine Br.yes (by first | with_reducible rfl | with_reducible exact beq_self_eq_true _ | rfl) ?_; conv => whnf) | (refine Br.no (by first | with_reducible rfl | with_reducible exact bne_self_eq_false _ | rfl) ?_; conv => whnf))
        refine hp.loadA (l := C2 ((c * 10 + d) % w64) ((c * 10 + d) / w64)) (by repeat (first | exact Has.here | apply Has.there | (apply Has.swap; repeat (first | exact HasR.here | apply HasR.there)))) rfl (by rfl) rfl rfl ?_
        conv => whnf
        refine hp.storeW (vs := C2 ((c * 10 + d) % w64) ((c * 10 + d) / w64)) rfl (by repeat (first | exact Rm.here | apply Rm.there)) (by first | exact C2_same _ _ _ _ | exact C4_same _ _ _ _ _ _ _ _ | exact Dc_same _ _ | rfl) rfl rfl rfl ?_
        clear hp
        intro s hp _
        conv => whnf
        rw [← hc'] at hp
        refine Sm.ofW ?_
        conv => whnf
        exact ⟨(i + 1, c', false), by (show Y.length - (i + 1) < Y.length - i); omega, subK_ok (by refine ⟨rfl, rfl, rfl, rfl, rfl, rfl, rfl, congrArg (fun x => some (Value.int .i64 x)) ei, trivial⟩), (by (show i + 1 ≤ Y.length); omega), ok2, hp.pik (by repeat (first | exact Pik.nil | exact Pik.refl _ | exact Rm.here | apply Rm.there | apply Pik.cons | apply Pik.skip))⟩
    · have hc : ¬ i < Y.length := by have h : ¬ (i : Int) < (Y.length : Int) := of_decide_eq_false hc; omega
      obtain rfl : i = Y.length := by omega
      have hov := ok.ov
      have hv := ok.val
      rw [List.take_length] at hov hv
      have c30 := ok.c30
      have cw : c < w128 := Nat.lt_trans c30 (by decide)
      conv => whnf
      refine Sm.seq ?_
      refine Sm.block ?_
      refine Sm.seqW ?_
      conv => whnf
      refine Sm.ofW ?_
      conv => whnf
      cases hovc : ov with
      | true =>
        rw [hovc] at hov
        rw [if_pos (of_decide_eq_true hov.symm)] at hread
        repeat (first | (refine Br.yes (by first | with_reducible rfl | with_reducible exact beq_self_eq_true _ | rfl) ?_; conv => whnf) | (refine Br.no (by first | with_reducible rfl | with_reducible exact bne_self_eq_false _ | rfl) ?_; conv => whnf))
        refine hp.storeW (vs := Dc.zero.cells) rfl (by repeat (first | exact Rm.here | apply Rm.there)) (by first | exact C2_same _ _ _ _ | exact C4_same _ _ _ _ _ _ _ _ | exact Dc_same _ _ | rfl) rfl rfl rfl ?_
        clear hp
        intro s hp _
        conv => whnf
        refine hp.loadA (l := Dc.zero.cells) (by repeat (first | exact Has.here | apply Has.there | (apply Has.swap; repeat (first | exact HasR.here | apply HasR.there)))) rfl (by rfl) rfl rfl ?_
        conv => whnf
        refine ⟨hp.fr, ?_⟩
        rw [hread]; rfl
      | false =>
        rw [hovc] at hov
        rw [if_neg (of_decide_eq_false hov.symm)] at hread
        have hv := hv hovc
        rw [← hv] at hread
        cases ng with
        | false =>
          repeat (first | (refine Br.yes (by first | with_reducible rfl | with_reducible exact beq_self_eq_true _ | rfl) ?_; conv => whnf) | (refine Br.no (by first | with_reducible rfl | with_reducible exact bne_self_eq_false _ | rfl) ?_; conv => whnf))
          refine Sm.seqW ?_
          conv => whnf
          refine hp.loadA (l := C2 (c % w64) (c / w64)) (by repeat (first | exact Has.here | apply Has.there | (apply Has.swap; repeat (first | exact HasR.here | apply HasR.there)))) rfl (by rfl) rfl rfl ?_
          conv => whnf
          refine hp.storeW (vs := (Dc.mk false c (R.length : Int)).cells) rfl (by repeat (first | exact Rm.here | apply Rm.there)) (by first | exact C2_same _ _ _ _ | exact C4_same _ _ _ _ _ _ _ _ | exact Dc_same _ _ | rfl) rfl rfl rfl ?_
          clear hp
          intro s hp _
          conv => whnf
          refine Sm.ofW ?_
          conv => whnf
          refine hp.loadA (l := (Dc.mk false c (R.length : Int)).cells) (by repeat (first | exact Has.here | apply Has.there | (apply Has.swap; repeat (first | exact HasR.here | apply HasR.there)))) rfl (by rfl) rfl rfl ?_
          conv => whnf
          refine ⟨hp.fr, ?_⟩
          rw [hread]; rfl
        | true =>
          repeat (first | (refine Br.yes (by first | with_reducible rfl | with_reducible exact beq_self_eq_true _ | rfl) ?_; conv => whnf) | (refine Br.no (by first | with_reducible rfl | with_reducible exact bne_self_eq_false _ | rfl) ?_; conv => whnf))
          refine hp.loadA (l := C2 (c % w64) (c / w64)) (by repeat (first | exact Has.here | apply Has.there | (apply Has.swap; repeat (first | exact HasR.here | apply HasR.there)))) rfl (by rfl) rfl rfl ?_
          conv => whnf
          repeat (first | (refine Br.yes (by first | with_reducible rfl | with_reducible exact beq_self_eq_true _ | rfl) ?_; conv => whnf) | (refine Br.no (by first | with_reducible rfl | with_reducible exact bne_self_eq_false _ | rfl) ?_; conv => whnf))
          refine hp.call (nought_spec hp.wf c) ?_
          clear hp
          rintro _ s rfl hp _
          conv => whnf
          by_cases h0 : c = 0
          · rw [decide_eq_true h0]
            repeat (first | (refine Br.yes (by first | with_reducible rfl | with_reducible exact beq_self_eq_true _ | rfl) ?_; conv => whnf) | (refine Br.no (by first | with_reducible rfl | with_reducible exact bne_self_eq_false _ | rfl) ?_; conv => whnf))
            refine hp.storeW (vs := Dc.zero.cells) rfl (by repeat (first | exact Rm.here | apply Rm.there)) (by first | exact C2_same _ _ _ _ | exact C4_same _ _ _ _ _ _ _ _ | exact Dc_same _ _ | rfl) rfl rfl rfl ?_
            clear hp
            intro s hp _
            conv => whnf
            refine hp.loadA (l := Dc.zero.cells) (by repeat (first | exact Has.here | apply Has.there | (apply Has.swap; repeat (first | exact HasR.here | apply HasR.there)))) rfl (by rfl) rfl rfl ?_
            conv => whnf
            refine ⟨hp.fr, ?_⟩
            rw [hread, decide_eq_true h0]; rfl
          · rw [decide_eq_false h0]
            repeat (first | (refine Br.yes (by first | with_reducible rfl | with_reducible exact beq_self_eq_true _ | rfl) ?_; conv => whnf) | (refine Br.no (by first | with_reducible rfl | with_reducible exact bne_self_eq_false _ | rfl) ?_; conv => whnf))
            refine Sm.seqW ?_
            conv => whnf
            refine hp.loadA (l := C2 (c % w64) (c / w64)) (by repeat (first | exact Has.here | apply Has.there | (apply Has.swap; repeat (first | exact HasR.here | apply HasR.there)))) rfl (by rfl) rfl rfl ?_
            conv => whnf
            refine hp.storeW (vs := (Dc.mk true c (R.length : Int)).cells) rfl (by repeat (first | exact Rm.here | apply Rm.there)) (by first | exact C2_same _ _ _ _ | exact C4_same _ _ _ _ _ _ _ _ | exact Dc_same _ _ | rfl) rfl rfl rfl ?_
            clear hp
            intro s hp _
            conv => whnf
            refine Sm.ofW ?_
            conv => whnf
            refine hp.loadA (l := (Dc.mk true c (R.length : Int)).cells) (by repeat (first | exact Has.here | apply Has.there | (apply Has.swap; repeat (first | exact HasR.here | apply HasR.there)))) rfl (by rfl) rfl rfl ?_
            conv => whnf
            refine ⟨hp.fr, ?_⟩
            rw [hread, decide_eq_false h0]; rfl
end Go.Ev
end

/- limb.Bits; pieces of an array. No condition. -/
noncomputable section
namespace Go.Ev
open Go.Proofs
variable [Lk]
set_option linter.unusedSectionVars false
set_option linter.unusedVariables false
set_option maxRecDepth 100000

theorem slice_arr {P : Program} {t n e : Nat} (hu : P.underlying t = some (.array n e)) {j : TypeInfo} (hin : P.info? e = some j) (hj : j.size = 1) {s : St} {k b : Nat} {l : List UInt8} (hb : Blk s k b (byteVals l) 1) (hn : l.length = n) (hn0 : 0 < n)
    {lo hi : Option Nat} (h1 : lo.getD 0 ≤ hi.getD n) (h2 : hi.getD n ≤ n) :
    ∃ v, evSliceMem P t (.pointer (some ⟨b, 0, none⟩)) (bndV .i64 lo) (bndV .i64 hi) none s = some v ∧ Sb s (some k) v ((l.drop (lo.getD 0)).take (hi.getD n - lo.getD 0)) := by
  have hbd : bnds n n (bndV .i64 lo) (bndV .i64 hi) none = some (lo.getD 0, hi.getD n, n) := by
    unfold bnds
    cases lo <;> cases hi <;> simp only [bndV, Option.getD_none, Option.getD_some] at h1 h2 ⊢
    · rw [bnd_nat h2]
    · rw [bnd_nat h1]
    · rw [bnd_nat h2]; simp only; rw [bnd_nat h1]
  refine ⟨.slice (some ⟨b, lo.getD 0, none⟩) (hi.getD n - lo.getD 0) (n - lo.getD 0), ?_, ?_⟩
  · obtain ⟨base, fl, g1, g2, g3⟩ := hb.ex
    have e1 := hb.esz
    have e2 := hb.rd
    unfold evSliceMem
    rw [hu]
    simp only [hin, e1, e2, hj, Nat.beq_refl, Nat.mul_one, blt_of hn0, byteVals_length, Nat.zero_add, hn, Nat.ble_eq_true_of_le (Nat.le_refl n), g1, hbd]
  · have hlen : ((l.drop (lo.getD 0)).take (hi.getD n - lo.getD 0)).length = hi.getD n - lo.getD 0 := by simp; omega
    have hv : byteVals ((l.drop (lo.getD 0)).take (hi.getD n - lo.getD 0)) = ((byteVals l).drop (lo.getD 0)).take (hi.getD n - lo.getD 0) := by simp [byteVals, List.map_take, List.map_drop]
    refine ⟨.inr ⟨b, lo.getD 0, n - lo.getD 0, byteVals l, by rw [hlen], by rw [hlen]; omega, by rw [byteVals_length, Nat.mul_one], ?_, .inl ⟨k, rfl, hb⟩⟩⟩
    rw [hv, hlen, Nat.mul_one]
    unfold sl
    simp only
    have : (((byteVals l).drop (lo.getD 0)).take (hi.getD n - lo.getD 0)).length = hi.getD n - lo.getD 0 := by rw [← hv, byteVals_length, hlen]
    rw [this, Nat.beq_refl]
end Go.Ev
end

/- dec.Print walked. No condition. -/
noncomputable section
namespace Go.Ev
open Go.Proofs
variable [Lk]
set_option linter.unusedSectionVars false
set_option linter.unusedVariables false
set_option maxRecDepth 100000

/-- The k-th figure of a number, from the right. -/
def dch (c k : Nat) : UInt8 := UInt8.ofNat (48 + c / 10 ^ k % 10)
/-- So many figures, the lowest first. -/
def pl (c n : Nat) : List UInt8 := (List.range n).map (dch c)
theorem pl_succ (c n : Nat) : pl c (n + 1) = pl c n ++ [dch c n] := by simp [pl, List.range_succ]
theorem pl_len (c n : Nat) : (pl c n).length = n := by simp [pl]
/-- How many figures are printed. -/
def np (c sc : Nat) : Nat := max (sc + 1) (dg c).length
theorem dg_more {c i : Nat} : i < (dg c).length ↔ 0 < c / 10 ^ i := by
  have h := (dg_dl c).small i
  rw [Vd_dg] at h
  have hp := p10 i
  constructor
  · intro g
    have : ¬ c < 10 ^ i := fun k => by have := h.1 k; omega
    exact Nat.div_pos (by omega) hp
  · intro g
    rcases Nat.lt_or_ge i (dg c).length with k | k
    · exact k
    · have := h.2 k
      rw [Nat.div_eq_of_lt this] at g; exact absurd g (by decide)
theorem np_more {c sc i : Nat} : i < np c sc ↔ i ≤ sc ∨ 0 < c / 10 ^ i := by
  unfold np
  rw [← dg_more]; omega
theorem np_le {c sc : Nat} (hc : c < 10 ^ 30) (hs : sc ≤ 9) : np c sc ≤ 30 := by
  have := dg_len 30 c hc
  unfold np; omega
def printF (d : Dc) : List UInt8 :=
  if d.right = false then [] else
  (if d.neg = true then [45] else []) ++ ((pl d.c (np d.c d.scale.toNat)).reverse.take (np d.c d.scale.toNat - d.scale.toNat) ++
    (if 0 < d.scale then [46] ++ (pl d.c (np d.c d.scale.toNat)).reverse.drop (np d.c d.scale.toNat - d.scale.toNat) else []))
/-- What stands in the field of figures when i are there. -/
def fieldL (c i : Nat) : List UInt8 := List.replicate (31 - i) 0 ++ (pl c i).reverse
theorem fieldL_len {c i : Nat} (h : i ≤ 31) : (fieldL c i).length = 31 := by simp [fieldL, pl_len]; omega
theorem fieldL_set {c i : Nat} (h : i < 31) : (fieldL c i).set (30 - i) (dch c i) = fieldL c (i + 1) := by
  unfold fieldL
  rw [pl_succ, List.reverse_append, show 31 - i = (30 - i) + 1 by omega, List.replicate_succ', List.append_assoc, show 31 - (i + 1) = 30 - i by omega]
  rw [List.set_append_right _ _ (by simp)]
  simp
theorem figs_dch : ∀ j, (h : j < 10) → figs[j]'h = UInt8.ofNat (48 + j) := by decide +kernel
theorem field_whole {c n k : Nat} (hn : n ≤ 31) (hk : k ≤ n) : ((fieldL c n).drop (31 - n)).take (31 - k - (31 - n)) = (pl c n).reverse.take (n - k) := by
  unfold fieldL
  rw [List.drop_left' (by simp), show 31 - k - (31 - n) = n - k by omega]
theorem field_rest {c n k : Nat} (hn : n ≤ 31) (hk : k ≤ n) : ((fieldL c n).drop (31 - k)).take (31 - (31 - k)) = (pl c n).reverse.drop (n - k) := by
  have h1 : (fieldL c n).drop (31 - k) = (pl c n).reverse.drop (n - k) := by
    unfold fieldL
    rw [List.drop_append, List.drop_eq_nil_of_le (by simp; omega), List.nil_append, List.length_replicate, show 31 - k - (31 - n) = n - k by omega]
  rw [h1, List.take_of_length_le (by simp [pl_len]; omega)]
end Go.Ev
end

/- Chapter 2's example; the order of decimals at one scale. No condition. -/
noncomputable section
namespace Go.Ev
open Go.Proofs
variable [Lk]
set_option linter.unusedSectionVars false
set_option linter.unusedVariables false
set_option maxRecDepth 100000

theorem rk2 : readF [45, 49, 50, 46, 53, 48] = okD ⟨true, 1250, 2⟩ := by
  unfold readF
  have e1 : readOk (bodyF [45, 49, 50, 46, 53, 48]) = true := by decide +kernel
  have e2 : valD (wholeF (bodyF [45, 49, 50, 46, 53, 48]) ++ restF (bodyF [45, 49, 50, 46, 53, 48])) = 1250 := by decide +kernel
  have e3 : hasP [45, 49, 50, 46, 53, 48] [45] = true := by decide +kernel
  have e4 : (restF (bodyF [45, 49, 50, 46, 53, 48])).length = 2 := by decide +kernel
  rw [e1, e2, e3, e4, if_neg (by decide), if_neg (by decide), if_neg (by decide)]
  rfl
theorem pk2 : printF ⟨true, 1250, 2⟩ = [45, 49, 50, 46, 53, 48] := by
  unfold printF
  have e1 : (Dc.mk true 1250 2).right = true := by decide +kernel
  have e2 : np 1250 2 = 4 := by
    unfold np
    have : (dg 1250).length = 4 := by simp [dg]
    rw [this]; rfl
  rw [e1, if_neg (by decide)]
  show (if true = true then [45] else []) ++ ((pl 1250 (np 1250 2)).reverse.take (np 1250 2 - 2) ++ (if (0 : Int) < 2 then [46] ++ (pl 1250 (np 1250 2)).reverse.drop (np 1250 2 - 2) else [])) = _
  rw [e2]
  decide +kernel
theorem cmpZ_mul {x y : Int} {k : Nat} (hk : 0 < k) : cmpZ (x * (k : Int)) (y * (k : Int)) = cmpZ x y := by
  have h1 : x * (k : Int) < y * (k : Int) ↔ x < y := Int.mul_lt_mul_right (by omega)
  have h2 : x * (k : Int) = y * (k : Int) ↔ x = y := ⟨fun h => Int.eq_of_mul_eq_mul_right (by omega) h, fun h => by rw [h]⟩
  unfold cmpZ
  simp only [h1, h2]
/-- A decimal's value, in units of the ninth place. -/
def u9 (x S : Int) : Int := x * 10 ^ (9 - S).toNat
theorem u9_up {x S M : Int} (h1 : S ≤ M) (h2 : M ≤ 9) : x * 10 ^ (M - S).toNat * 10 ^ (9 - M).toNat = u9 x S := by
  unfold u9
  rw [Int.mul_assoc, ← Int.pow_add, show (M - S).toNat + (9 - M).toNat = (9 - S).toNat by omega]
theorem cmpF_9 {x y S T : Int} (hx : x.natAbs < 10 ^ 30) (hy : y.natAbs < 10 ^ 30) (s1 : 0 ≤ S) (s2 : S ≤ 9) (t1 : 0 ≤ T) (t2 : T ≤ 9) : cmpF (mkD x S) (mkD y T) = cmpZ (u9 x S) (u9 y T) := by
  rw [cmpF_mkD hx hy s1 s2 t1 t2, ← u9_up (x := x) (S := S) (M := max S T) (by omega) (by omega), ← u9_up (x := y) (S := T) (M := max S T) (by omega) (by omega), p10i (9 - max S T).toNat, cmpZ_mul (p10 _)]
theorem cmpZ_cases (x y : Int) : (x < y ∧ cmpZ x y = -1) ∨ (x = y ∧ cmpZ x y = 0) ∨ (y < x ∧ cmpZ x y = 1) := by
  unfold cmpZ
  by_cases h : x < y
  · rw [if_pos h]; exact .inl ⟨h, rfl⟩
  · rw [if_neg h]
    by_cases g : x = y
    · rw [if_pos g]; exact .inr (.inl ⟨g, rfl⟩)
    · rw [if_neg g]; exact .inr (.inr ⟨by omega, rfl⟩)
theorem u9_neg (x S : Int) : u9 (-x) S = -u9 x S := Int.neg_mul _ _
theorem abs_le {a : Int} {n : Nat} (h : a.natAbs ≤ n) : -(n : Int) ≤ a ∧ a ≤ n := by omega
theorem lt_abs {a : Int} {n : Nat} (h : -(n : Int) < a ∧ a < n) : a.natAbs < n := by omega
theorem le_abs {a : Int} {n : Nat} (h : -(n : Int) ≤ a ∧ a ≤ n) : a.natAbs ≤ n := by omega
theorem mul_b {a c : Int} {m n : Nat} (h : a.natAbs ≤ m) (hk : c.natAbs ≤ n) : (a * c).natAbs ≤ m * n := by
  rw [Int.natAbs_mul]; exact Nat.mul_le_mul h hk
theorem p10_b {k n : Nat} (h : k ≤ n) : ((10 : Int) ^ k).natAbs ≤ 10 ^ n := by
  rw [p10i, Int.natAbs_natCast]; exact pow_le10 h
theorem add_b {a c : Int} {m n : Nat} (h : a.natAbs ≤ m) (hk : c.natAbs ≤ n) : (a + c).natAbs ≤ m + n := by omega
theorem sub_b {a c : Int} {m n : Nat} (h : a.natAbs ≤ m) (hk : c.natAbs ≤ n) : (a - c).natAbs ≤ m + n := by omega
end Go.Ev
end

/- What is printed of a decimal with more places. No condition. -/
noncomputable section
namespace Go.Ev
open Go.Proofs
variable [Lk]
set_option linter.unusedSectionVars false
set_option linter.unusedVariables false
set_option maxRecDepth 100000

theorem pow_div {c k j : Nat} : c * 10 ^ k / 10 ^ (k + j) = c / 10 ^ j := by
  rw [Nat.pow_add, ← Nat.div_div_eq_div_mul, Nat.mul_div_cancel _ (p10 _)]
theorem pow_mod {c k j : Nat} (h : j < k) : c * 10 ^ k / 10 ^ j % 10 = 0 := by
  obtain ⟨m, rfl⟩ : ∃ m, k = j + (m + 1) := ⟨k - j - 1, by omega⟩
  rw [Nat.pow_add, Nat.mul_comm (10 ^ j), ← Nat.mul_assoc, Nat.mul_div_cancel _ (p10 _), Nat.pow_succ, ← Nat.mul_assoc, Nat.mul_mod_left]
theorem pl_scale (c k n : Nat) : pl (c * 10 ^ k) (k + n) = List.replicate k 48 ++ pl c n := by
  refine List.ext_getElem (by simp [pl_len]) fun i h1 h2 => ?_
  rw [pl_len] at h1
  by_cases hi : i < k
  · rw [List.getElem_append_left (by simpa using hi)]
    simp only [pl, List.getElem_map, List.getElem_range, List.getElem_replicate, dch, pow_mod hi]
    rfl
  · rw [List.getElem_append_right (by simpa using hi)]
    simp only [pl, List.getElem_map, List.getElem_range, List.length_replicate, dch]
    have e : c * 10 ^ k / 10 ^ i = c / 10 ^ (i - k) := by
      have := pow_div (c := c) (k := k) (j := i - k)
      rw [show k + (i - k) = i by omega] at this
      exact this
    rw [e]
theorem dg_scale {c : Nat} (hc : c ≠ 0) (k : Nat) : (dg (c * 10 ^ k)).length = (dg c).length + k := by
  have h : ∀ i, i < (dg (c * 10 ^ k)).length ↔ i < (dg c).length + k := fun i => by
    rw [dg_more]
    by_cases hi : i < k
    · refine ⟨fun _ => by omega, fun _ => Nat.div_pos ?_ (p10 _)⟩
      have h1 : 10 ^ i ≤ 10 ^ k := pow_le10 (by omega)
      have h2 : 1 * 10 ^ k ≤ c * 10 ^ k := Nat.mul_le_mul_right _ (by omega)
      omega
    · have e : c * 10 ^ k / 10 ^ i = c / 10 ^ (i - k) := by
        have := pow_div (c := c) (k := k) (j := i - k)
        rw [show k + (i - k) = i by omega] at this
        exact this
      rw [e, ← dg_more]; omega
  have h1 := h (dg (c * 10 ^ k)).length
  have h2 := h ((dg c).length + k)
  omega
theorem np_scale (c k S : Nat) : np (c * 10 ^ k) (S + k) = np c S + k := by
  unfold np
  by_cases hc : c = 0
  · subst hc
    rw [Nat.zero_mul]
    have : dg 0 = [] := by rw [dg]; simp
    rw [this]; simp; omega
  · rw [dg_scale hc]; omega
theorem np_ge (c S : Nat) : S < np c S := by unfold np; omega
theorem print_scale {ng : Bool} {c S k : Nat} (h1 : (Dc.mk ng c (S : Int)).right = true) (h2 : (Dc.mk ng (c * 10 ^ k) ((S + k : Nat) : Int)).right = true) :
    printF ⟨ng, c * 10 ^ k, ((S + k : Nat) : Int)⟩ = printF ⟨ng, c, (S : Int)⟩ ++ (if S = 0 ∧ 0 < k then [46] else []) ++ List.replicate k 48 := by
  unfold printF
  rw [h1, h2, if_neg (by decide)]
  simp only [Int.toNat_natCast, np_scale]
  have hn := np_ge c S
  generalize np c S = n at *
  rw [Nat.add_comm n k, pl_scale, show k + n - (S + k) = n - S by omega, List.reverse_append, List.reverse_replicate]
  have e1 : ((pl c n).reverse ++ List.replicate k 48).take (n - S) = (pl c n).reverse.take (n - S) := by
    rw [List.take_append_of_le_length (by rw [List.length_reverse, pl_len]; omega)]
  have e2 : ((pl c n).reverse ++ List.replicate k 48).drop (n - S) = (pl c n).reverse.drop (n - S) ++ List.replicate k 48 := by
    rw [List.drop_append_of_le_length (by rw [List.length_reverse, pl_len]; omega)]
  rw [e1, e2]
  by_cases hS : S = 0
  · subst hS
    have e3 : (pl c n).reverse.drop (n - 0) = [] := List.drop_eq_nil_of_le (by rw [List.length_reverse, pl_len]; omega)
    rw [e3]
    by_cases hk : 0 < k
    · have c1 : (0 : Int) < ((0 + k : Nat) : Int) := by omega
      simp only [c1, if_true, hk, and_self]
      simp
    · obtain rfl : k = 0 := by omega
      simp
  · have c1 : (0 : Int) < ((S + k : Nat) : Int) := by omega
    have c2 : (0 : Int) < (S : Int) := by omega
    simp only [c1, c2, if_true, hS, false_and, if_false]
    simp
end Go.Ev
end

/- What is printed is read the same. No condition. -/
noncomputable section
namespace Go.Ev
open Go.Proofs
variable [Lk]
set_option linter.unusedSectionVars false
set_option linter.unusedVariables false
set_option maxRecDepth 100000

theorem print_len {d : Dc} (h : d.right = true) : (printF d).length ≤ 32 := by
  obtain ⟨a1, a2, a3⟩ := Dc.right_c h
  have hn := np_le a1 (show d.scale.toNat ≤ 9 by omega)
  unfold printF
  rw [h, if_neg (by decide)]
  have e1 : ((pl d.c (np d.c d.scale.toNat)).reverse.take (np d.c d.scale.toNat - d.scale.toNat)).length + ((pl d.c (np d.c d.scale.toNat)).reverse.drop (np d.c d.scale.toNat - d.scale.toNat)).length = np d.c d.scale.toNat := by
    rw [← List.length_append, List.take_append_drop, List.length_reverse, pl_len]
  generalize (pl d.c (np d.c d.scale.toNat)).reverse.take (np d.c d.scale.toNat - d.scale.toNat) = A at *
  generalize (pl d.c (np d.c d.scale.toNat)).reverse.drop (np d.c d.scale.toNat - d.scale.toNat) = B at *
  generalize np d.c d.scale.toNat = n at *
  split <;> split <;> simp <;> omega
theorem scaled_mkD {x S : Int} {T : Int} (hx : x.natAbs < 10 ^ 30) (s1 : 0 ≤ S) (h1 : S ≤ T) (h2 : T ≤ 9) : scaledF (mkD x S) T = mkI (x * 10 ^ (T - S).toNat) T := by
  have hr := mkD_right hx s1 (by omega)
  unfold scaledF
  rw [if_neg (by rw [hr]; simp; exact ⟨h1, h2⟩), dmade_mk]
  congr 1
  exact up_mkD x S T
theorem isD_iff {x : UInt8} : isD x = true ↔ 48 ≤ x.toNat ∧ x.toNat ≤ 57 := decide_eq_true_iff
theorem idxL_skip {c : Nat} : ∀ (W T : List UInt8) (i : Nat), (∀ x ∈ W, x.toNat ≠ c) → idxL c (W ++ T) i = idxL c T (i + W.length)
  | [], T, i, _ => rfl
  | x :: W, T, i, h => by
    show (match Nat.beq x.toNat c with | true => some i | false => idxL c (W ++ T) (i + 1)) = _
    have hx : Nat.beq x.toNat c = false := by
      have := h x (List.mem_cons_self ..)
      cases hb : Nat.beq x.toNat c with
      | false => rfl
      | true => exact absurd (Nat.eq_of_beq_eq_true hb) this
    rw [hx]
    show idxL c (W ++ T) (i + 1) = _
    rw [idxL_skip W T (i + 1) (fun y hy => h y (List.mem_cons_of_mem _ hy)), List.length_cons]
    congr 1; omega
theorem idxL_body {W R : List UInt8} (hW : ∀ x ∈ W, isD x = true) (pt : Bool) :
    idxL 46 (W ++ (if pt = true then [46] ++ R else [])) 0 = if pt = true then some W.length else none := by
  rw [idxL_skip W _ 0 (fun x hx => by have := isD_iff.1 (hW x hx); omega)]
  cases pt with
  | false => rfl
  | true => rw [if_pos rfl, if_pos rfl]; show some (0 + W.length) = _; rw [Nat.zero_add]
/-- A text of figures, with its parts. -/
def txt (ng : Bool) (W : List UInt8) (pt : Bool) (R : List UInt8) : List UInt8 := (if ng = true then [45] else []) ++ (W ++ (if pt = true then [46] ++ R else []))
theorem txt_hasP {ng pt : Bool} {W R : List UInt8} (h0 : W ≠ []) (hW : ∀ x ∈ W, isD x = true) : hasP (txt ng W pt R) [45] = ng := by
  cases ng with
  | true => rfl
  | false =>
    obtain ⟨w, W, rfl⟩ := List.exists_cons_of_ne_nil h0
    show (true && ([w] == [45])) = false
    have := isD_iff.1 (hW w (List.mem_cons_self ..))
    have hw : w ≠ 45 := fun e => by subst e; exact absurd this (by decide)
    simp [hw]
theorem txt_body {ng pt : Bool} {W R : List UInt8} (h0 : W ≠ []) (hW : ∀ x ∈ W, isD x = true) : bodyF (txt ng W pt R) = W ++ (if pt = true then [46] ++ R else []) := by
  unfold bodyF
  rw [txt_hasP h0 hW]
  cases ng <;> rfl
theorem txt_whole {pt : Bool} {W R : List UInt8} (hW : ∀ x ∈ W, isD x = true) : wholeF (W ++ (if pt = true then [46] ++ R else [])) = W := by
  unfold wholeF
  rw [idxL_body hW]
  cases pt with
  | false => simp
  | true => simp
theorem txt_rest {pt : Bool} {W R : List UInt8} (hW : ∀ x ∈ W, isD x = true) (hR : pt = false → R = []) : restF (W ++ (if pt = true then [46] ++ R else [])) = R := by
  unfold restF
  rw [idxL_body hW]
  cases pt with
  | false => simp [hR rfl]
  | true => simp
theorem txt_point {pt : Bool} {W R : List UInt8} (hW : ∀ x ∈ W, isD x = true) : pointF (W ++ (if pt = true then [46] ++ R else [])) = pt := by
  unfold pointF
  rw [idxL_body hW]
  cases pt <;> rfl
theorem all_isD {l : List UInt8} (h : ∀ x ∈ l, isD x = true) : l.all isD = true := List.all_eq_true.2 h
theorem read_txt {ng pt : Bool} {W R : List UInt8} (h0 : W ≠ []) (hW : ∀ x ∈ W, isD x = true) (hR : ∀ x ∈ R, isD x = true) (h1 : pt = false → R = []) (h2 : pt = true → R ≠ [] ∧ R.length ≤ 9) :
    readF (txt ng W pt R) = if 30 < W.length then errD 2 else if 10 ^ 30 ≤ valD (W ++ R) then errD 3 else if (ng && decide (valD (W ++ R) = 0)) = true then errD 2 else okD ⟨ng, valD (W ++ R), R.length⟩ := by
  unfold readF readOk
  rw [txt_body h0 hW, txt_whole hW, txt_rest hW h1, txt_point hW, txt_hasP h0 hW]
  have e1 : runF W 30 = decide (W.length ≤ 30) := by
    unfold runF
    rw [all_isD hW, beq_eq_false_iff_ne.2 h0]; simp
  have e2 : (!pt || runF R 9) = true := by
    cases pt with
    | false => rfl
    | true =>
      obtain ⟨g1, g2⟩ := h2 rfl
      unfold runF
      rw [all_isD hR, beq_eq_false_iff_ne.2 g1]; simp [g2]
  rw [e1, e2, Bool.and_true]
  by_cases h : 30 < W.length
  · rw [if_pos h, if_pos (decide_eq_false (by omega))]
  · rw [if_neg h, if_neg (by rw [decide_eq_true (by omega)]; decide)]
theorem pl_low (c n : Nat) : pl c (n + 1) = dch c 0 :: pl (c / 10) n := by
  unfold pl
  rw [List.range_succ_eq_map, List.map_cons, List.map_map]
  congr 1
  refine List.map_congr_left fun i _ => ?_
  show UInt8.ofNat (48 + c / 10 ^ (i + 1) % 10) = UInt8.ofNat (48 + c / 10 / 10 ^ i % 10)
  rw [Nat.div_div_eq_div_mul, Nat.pow_succ, Nat.mul_comm (10 ^ i)]
theorem dch_nat (c k : Nat) : (dch c k).toNat = 48 + c / 10 ^ k % 10 := by
  unfold dch
  rw [UInt8.toNat_ofNat']
  have := Nat.mod_lt (c / 10 ^ k) (show 0 < 10 by decide)
  omega
theorem pl_isD {c n : Nat} : ∀ x ∈ pl c n, isD x = true := by
  intro x hx
  unfold pl at hx
  obtain ⟨i, _, rfl⟩ := List.mem_map.1 hx
  rw [isD_iff, dch_nat]
  have := Nat.mod_lt (c / 10 ^ i) (show 0 < 10 by decide)
  omega
theorem valD_pl : ∀ (n c : Nat), valD (pl c n).reverse = c % 10 ^ n
  | 0, c => by simp [pl, valD, Nat.mod_one]
  | n + 1, c => by
    rw [pl_low, List.reverse_cons, valD_snoc, valD_pl n, dch_nat, Nat.pow_zero, Nat.div_one, Nat.pow_succ', Nat.mod_mul]
    omega
theorem np_val (c sc : Nat) : c < 10 ^ np c sc := by
  have h : ¬ np c sc < np c sc := by omega
  rw [np_more] at h
  have hp := p10 (np c sc)
  rcases Nat.lt_or_ge c (10 ^ np c sc) with g | g
  · exact g
  · exact absurd (.inr (Nat.div_pos g hp)) h
/-- The parts of what is printed. -/
theorem print_parts {d : Dc} (h : d.right = true) : ∃ W R : List UInt8, ∃ pt : Bool, W ≠ [] ∧ W.length ≤ 30 ∧ (∀ x ∈ W, isD x = true) ∧ (∀ x ∈ R, isD x = true) ∧ (pt = false → R = []) ∧
    (pt = true → R ≠ [] ∧ R.length ≤ 9) ∧ (R.length : Int) = d.scale ∧ valD (W ++ R) = d.c ∧ printF d = txt d.neg W pt R := by
  obtain ⟨a1, a2, a3⟩ := Dc.right_c h
  obtain ⟨ng, c, sc⟩ := d
  simp only at a1 a2 a3 ⊢
  obtain ⟨k, rfl⟩ : ∃ k : Nat, sc = k := ⟨sc.toNat, by omega⟩
  have hn := np_le a1 (show k ≤ 9 by omega)
  have hg := np_ge c k
  have hv := np_val c k
  refine ⟨(pl c (np c k)).reverse.take (np c k - k), (pl c (np c k)).reverse.drop (np c k - k), decide (0 < (k : Int)), ?_, ?_, ?_, ?_, ?_, ?_, ?_, ?_, ?_⟩
  · intro e
    have := congrArg List.length e
    simp [pl_len] at this; omega
  · simp [pl_len]; omega
  · exact fun x hx => pl_isD x (List.mem_reverse.1 (List.mem_of_mem_take hx))
  · exact fun x hx => pl_isD x (List.mem_reverse.1 (List.mem_of_mem_drop hx))
  · intro e
    have := of_decide_eq_false e
    refine List.drop_eq_nil_of_le ?_
    simp [pl_len]; omega
  · intro e
    have := of_decide_eq_true e
    refine ⟨fun e => ?_, ?_⟩
    · have := congrArg List.length e
      simp [pl_len] at this; omega
    · simp [pl_len]; omega
  · simp [pl_len]; omega
  · rw [List.take_append_drop, valD_pl, Nat.mod_eq_of_lt hv]
  · unfold printF txt
    rw [h, if_neg (by decide)]
    simp only [Int.toNat_natCast, decide_eq_true_eq]
theorem right_nz {d : Dc} (h : d.right = true) : (d.neg && decide (d.c = 0)) = false := by
  unfold Dc.right at h
  simp only [Bool.and_eq_true, Bool.not_eq_true'] at h
  exact h.2.2.2
theorem read_print {d : Dc} (h : d.right = true) : readF (printF d) = okD d := by
  obtain ⟨W, R, pt, h0, h30, hW, hR, h1, h2, hs, hv, e⟩ := print_parts h
  obtain ⟨a1, a2, a3⟩ := Dc.right_c h
  rw [e, read_txt h0 hW hR h1 h2, hv, hs, if_neg (by omega), if_neg (by omega), right_nz h, if_neg (by decide)]
/-- A zero ahead. -/
theorem read_zero {d : Dc} (h : d.right = true) : ∃ U : List UInt8, ∃ u : UInt8, printF d = (if d.neg = true then [45] else []) ++ u :: U ∧ isD u = true ∧ u :: U ≠ [] ∧ (u :: U).length ≤ 32 ∧
    (readF ((if d.neg = true then [45] else []) ++ 48 :: u :: U) = okD d ∨ ∃ e : Int, e ≠ 0 ∧ readF ((if d.neg = true then [45] else []) ++ 48 :: u :: U) = errD e) := by
  obtain ⟨W, R, pt, h0, h30, hW, hR, h1, h2, hs, hv, e⟩ := print_parts h
  obtain ⟨a1, a2, a3⟩ := Dc.right_c h
  obtain ⟨u, W, rfl⟩ := List.exists_cons_of_ne_nil h0
  have hlen := print_len h
  refine ⟨W ++ (if pt = true then [46] ++ R else []), u, e.trans rfl, hW u (List.mem_cons_self ..), by simp, ?_, ?_⟩
  · rw [e] at hlen
    unfold txt at hlen
    rw [List.length_append] at hlen
    exact Nat.le_trans (Nat.le_add_left _ _) hlen
  · have hz : ∀ x ∈ 48 :: u :: W, isD x = true := fun x hx => by
      rcases List.mem_cons.1 hx with rfl | g
      · rfl
      · exact hW x g
    have := read_txt (ng := d.neg) (pt := pt) (W := 48 :: u :: W) (R := R) (by simp) hz hR h1 h2
    have e2 : valD (48 :: u :: W ++ R) = valD (u :: W ++ R) := rfl
    rw [e2, hv, hs, if_neg (show ¬ 10 ^ 30 ≤ d.c by omega), right_nz h, if_neg (show ¬ false = true by decide)] at this
    show readF (txt d.neg (48 :: u :: W) pt R) = okD d ∨ ∃ e : Int, e ≠ 0 ∧ readF (txt d.neg (48 :: u :: W) pt R) = errD e
    rw [this]
    by_cases g : 30 < (48 :: u :: W).length
    · rw [if_pos g]; exact .inr ⟨2, by decide, rfl⟩
    · rw [if_neg g]; exact .inl rfl
end Go.Ev
end

/- The document's digits, Neg, Cmp, Add, Sub, Mul, Scaled of decimals. No condition. -/
noncomputable section
namespace Go.Ev
open Go.Proofs
variable [Lk]
set_option linter.unusedSectionVars false
set_option linter.unusedVariables false
set_option maxRecDepth 100000

end Go.Ev
end

/- The document's Print. No condition. -/
noncomputable section
namespace Go.Ev
open Go.Proofs
variable [Lk]
set_option linter.unusedSectionVars false
set_option linter.unusedVariables false
set_option maxRecDepth 100000

def preF (c sc k : Nat) : List UInt8 := if sc < k ∧ 0 < sc then (pl c k).reverse.take (k - sc) ++ 46 :: (pl c k).reverse.drop (k - sc) else (pl c k).reverse
theorem preF_step (c sc k : Nat) : preF c sc (k + 1) = dch c k :: (if k = sc ∧ 0 < k then 46 :: preF c sc k else preF c sc k) := by
  unfold preF
  rw [pl_succ, List.reverse_append, List.reverse_singleton, List.singleton_append]
  by_cases h0 : 0 < sc
  · by_cases h1 : k < sc
    · rw [if_neg (by omega), if_neg (by omega), if_neg (by omega)]
    · by_cases h2 : k = sc
      · subst h2
        rw [if_pos ⟨by omega, h0⟩, if_pos ⟨rfl, h0⟩, if_neg (by omega), show k + 1 - k = 1 by omega]
        rfl
      · rw [if_pos ⟨by omega, h0⟩, if_neg (by omega), if_pos ⟨by omega, h0⟩, show k + 1 - sc = (k - sc) + 1 by omega]
        rfl
  · rw [if_neg (by omega), if_neg (by omega), if_neg (by omega)]
theorem preF_len (c sc k : Nat) : (preF c sc k).length ≤ k + 1 := by
  unfold preF
  split
  · simp [pl_len]; omega
  · simp [pl_len]
theorem Vd_digit : ∀ (l : List Nat) (k : Nat), (∀ d ∈ l, d < 10) → l.getD k 0 = Vd l / 10 ^ k % 10
  | [], k, _ => by simp [Vd]
  | d :: l, 0, h => by
    have := h d (List.mem_cons_self ..)
    show d = (d + 10 * Vd l) / 10 ^ 0 % 10
    rw [Nat.pow_zero, Nat.div_one]; omega
  | d :: l, k + 1, h => by
    have hd := h d (List.mem_cons_self ..)
    show l.getD k 0 = (d + 10 * Vd l) / 10 ^ (k + 1) % 10
    rw [Vd_digit l k (fun x hx => h x (List.mem_cons_of_mem _ hx)), Nat.pow_succ', ← Nat.div_div_eq_div_mul, show (d + 10 * Vd l) / 10 = Vd l by omega]
theorem u8_dig : ∀ d, d < 10 → IntKind.u8.wrap (IntKind.i64.wrap (48 + ((d : Nat) : Int))) = (((UInt8.ofNat (48 + d)).toNat : Nat) : Int) := by decide +kernel
theorem printF_pre {ng : Bool} {c k : Nat} (hr : (Dc.mk ng c (k : Int)).right = true) : printF ⟨ng, c, k⟩ = (if ng = true then [45] else []) ++ preF c k (np c k) := by
  unfold printF preF
  rw [hr, if_neg (by decide)]
  simp only [Int.toNat_natCast]
  have hn := np_ge c k
  generalize np c k = n at *
  congr 1
  by_cases h : 0 < k
  · rw [if_pos (show (0 : Int) < (k : Int) by omega), if_pos ⟨hn, h⟩]; rfl
  · obtain rfl : k = 0 := by omega
    rw [if_neg (show ¬ (0 : Int) < ((0 : Nat) : Int) by omega), if_neg (by omega), List.append_nil, List.take_of_length_le (by simp [pl_len])]
end Go.Ev
end

/- pyxlaw2.text. No condition. -/
noncomputable section
namespace Go.Ev
open Go.Proofs
variable [Lk]
set_option linter.unusedSectionVars false
set_option linter.unusedVariables false
set_option maxRecDepth 100000

def pieceV : Value := .agg #[sv [45], sv [46], sv [32], sv [48], sv [97], sv [57, 57, 57, 57, 57, 57, 57, 57, 57, 57, 57, 57, 57, 57, 57, 57, 57, 57, 57, 57]]
theorem piece_at {i : Nat} (h : i < 6) : ∃ l : List UInt8, l.length ≤ 20 ∧ evIndex Tryd.prog 62 pieceV (.int .i64 (i : Int)) = some (sv l) := by
  match i, h with
  | 0, _ => exact ⟨_, by decide, rfl⟩
  | 1, _ => exact ⟨_, by decide, rfl⟩
  | 2, _ => exact ⟨_, by decide, rfl⟩
  | 3, _ => exact ⟨_, by decide, rfl⟩
  | 4, _ => exact ⟨_, by decide, rfl⟩
  | 5, _ => exact ⟨_, by decide, rfl⟩
end Go.Ev
end

/- The document's Read, without a program. No condition. -/
noncomputable section
namespace Go.Ev
open Go.Proofs
variable [Lk]
set_option linter.unusedSectionVars false
set_option linter.unusedVariables false
set_option maxRecDepth 100000

/-- What is read of a body. -/
def readB (ng : Bool) (b : List UInt8) : Value :=
  if readOk b = false then errD 2 else if 10 ^ 30 ≤ valD (wholeF b ++ restF b) then errD 3
  else if (ng && decide (valD (wholeF b ++ restF b) = 0)) = true then errD 2 else okD ⟨ng, valD (wholeF b ++ restF b), (restF b).length⟩
theorem readF_B (l : List UInt8) : readF l = readB (hasP l [45]) (bodyF l) := rfl
theorem idxL_shift {c : Nat} : ∀ (T : List UInt8) (n : Nat), idxL c T n = (idxL c T 0).map (· + n)
  | [], n => rfl
  | x :: T, n => by
    show (match Nat.beq x.toNat c with | true => some n | false => idxL c T (n + 1)) = (match Nat.beq x.toNat c with | true => some 0 | false => idxL c T (0 + 1)).map (· + n)
    cases Nat.beq x.toNat c with
    | true => simp
    | false =>
      show idxL c T (n + 1) = (idxL c T (0 + 1)).map (· + n)
      rw [idxL_shift T (n + 1), idxL_shift T (0 + 1)]
      cases idxL c T 0 with
      | none => rfl
      | some k => simp; omega
theorem idx_pre {W T : List UInt8} (h : ∀ x ∈ W, x.toNat ≠ 46) : idxL 46 (W ++ T) 0 = (idxL 46 T 0).map (· + W.length) := by
  rw [idxL_skip W T 0 h, Nat.zero_add, idxL_shift]
theorem whole_pre {W T : List UInt8} (h : ∀ x ∈ W, x.toNat ≠ 46) : wholeF (W ++ T) = W ++ wholeF T := by
  unfold wholeF
  rw [idx_pre h]
  cases idxL 46 T 0 with
  | none => rfl
  | some k =>
    show (W ++ T).take (k + W.length) = W ++ T.take k
    rw [List.take_append, List.take_of_length_le (by omega), show k + W.length - W.length = k by omega]
theorem rest_pre {W T : List UInt8} (h : ∀ x ∈ W, x.toNat ≠ 46) : restF (W ++ T) = restF T := by
  unfold restF
  rw [idx_pre h]
  cases idxL 46 T 0 with
  | none => rfl
  | some k =>
    show (W ++ T).drop (k + W.length + 1) = T.drop (k + 1)
    rw [List.drop_append, List.drop_eq_nil_of_le (by omega), List.nil_append]
    congr 1; omega
theorem point_pre {W T : List UInt8} (h : ∀ x ∈ W, x.toNat ≠ 46) : pointF (W ++ T) = pointF T := by
  unfold pointF
  rw [idx_pre h]
  cases idxL 46 T 0 <;> rfl
theorem isD_ne {W : List UInt8} (h : ∀ x ∈ W, isD x = true) : ∀ x ∈ W, x.toNat ≠ 46 := fun x hx => by have := isD_iff.1 (h x hx); omega
theorem runF_no {l : List UInt8} {m : Nat} (h : l = [] ∨ m < l.length ∨ ∃ x ∈ l, isD x = false) : runF l m = false := by
  cases hr : runF l m with
  | false => rfl
  | true =>
    obtain ⟨h1, h2, h3⟩ := runF_ok hr
    rcases h with h | h | ⟨x, hx, h⟩
    · exact absurd h h1
    · omega
    · rw [h3 x hx] at h; cases h
theorem bad_whole {W rest : List UInt8} {x : UInt8} (hW : ∀ y ∈ W, isD y = true) (hx : x.toNat ≠ 46) (h : 30 ≤ W.length ∨ isD x = false) : readOk (W ++ x :: rest) = false := by
  unfold readOk
  have e : W ++ x :: rest = (W ++ [x]) ++ rest := by simp
  have hne : ∀ y ∈ W ++ [x], y.toNat ≠ 46 := fun y hy => by
    rcases List.mem_append.1 hy with g | g
    · exact isD_ne hW y g
    · rw [List.mem_singleton] at g; rw [g]; exact hx
  rw [e, whole_pre hne, runF_no]
  · rfl
  · refine .inr ?_
    rcases h with h | h
    · exact .inl (by simp; omega)
    · exact .inr ⟨x, by simp, h⟩
theorem dot_whole (r : List UInt8) : wholeF (46 :: r) = [] := rfl
theorem dot_rest (r : List UInt8) : restF (46 :: r) = r := rfl
theorem dot_point (r : List UInt8) : pointF (46 :: r) = true := rfl
theorem bad_dot (r : List UInt8) : readOk (46 :: r) = false := by
  unfold readOk
  rw [dot_whole, runF_no (.inl rfl)]; rfl
theorem bad_rest {W R rest : List UInt8} {x : UInt8} (hW : ∀ y ∈ W, isD y = true) (h : 9 ≤ R.length ∨ isD x = false) : readOk (W ++ 46 :: (R ++ x :: rest)) = false := by
  unfold readOk
  rw [whole_pre (isD_ne hW), rest_pre (isD_ne hW), point_pre (isD_ne hW), dot_rest, dot_point, runF_no (l := R ++ x :: rest)]
  · simp
  · refine .inr ?_
    rcases h with h | h
    · exact .inl (by simp; omega)
    · exact .inr ⟨x, by simp, h⟩
/-- The digits, the lowest first. -/
def nL (l : List UInt8) : List Nat := (l.map fun x => x.toNat - 48).reverse
theorem nL_len (l : List UInt8) : (nL l).length = l.length := by simp [nL]
theorem nL_snoc (l : List UInt8) (x : UInt8) : nL (l ++ [x]) = (x.toNat - 48) :: nL l := by simp [nL]
theorem Vd_nL' : ∀ m : List UInt8, Vd (m.map fun x => x.toNat - 48) = valD m.reverse
  | [] => rfl
  | x :: m => by
    rw [List.reverse_cons, valD_snoc, ← Vd_nL' m]
    show (x.toNat - 48) + 10 * Vd (m.map fun x => x.toNat - 48) = _
    omega
theorem Vd_nL (l : List UInt8) : Vd (nL l) = valD l := by
  unfold nL
  rw [← List.map_reverse, Vd_nL', List.reverse_reverse]
theorem nL_lt {l : List UInt8} (h : ∀ x ∈ l, isD x = true) : ∀ d ∈ nL l, d < 10 := by
  intro d hd
  unfold nL at hd
  rw [List.mem_reverse] at hd
  obtain ⟨x, hx, rfl⟩ := List.mem_map.1 hd
  have := isD_iff.1 (h x hx)
  omega
/-- What stands when some of a body is read. -/
structure RdI (b : List UInt8) (i : Nat) (W R : List UInt8) (pt : Bool) : Prop where
  at_ : b.take i = W ++ (if pt = true then [46] ++ R else [])
  le : i ≤ b.length
  w30 : W.length ≤ 30
  r9 : R.length ≤ 9
  dW : ∀ x ∈ W, isD x = true
  dR : ∀ x ∈ R, isD x = true
  off : pt = false → R = []
  on : pt = true → W ≠ []
theorem RdI.split {b W R : List UInt8} {i : Nat} {pt : Bool} (h : RdI b i W R pt) (hi : i < b.length) : b = W ++ ((if pt = true then [46] ++ R else []) ++ b[i] :: b.drop (i + 1)) := by
  have := (List.take_append_drop i b).symm
  rw [h.at_, List.drop_eq_getElem_cons hi] at this
  rw [List.append_assoc] at this
  exact this
/-- A figure more. -/
theorem RdI.fig {b W R : List UInt8} {i : Nat} (h : RdI b i W R false) (hi : i < b.length) (hx : isD b[i] = true) : (30 ≤ W.length → readOk b = false) ∧ (W.length < 30 → RdI b (i + 1) (W ++ [b[i]]) [] false) := by
  have hs := h.split hi
  have hx' := isD_iff.1 hx
  refine ⟨fun g => ?_, fun g => ⟨?_, by omega, by simp; omega, by simp, ?_, by simp, fun _ => rfl, fun h => nomatch h⟩⟩
  · rw [hs]
    exact bad_whole h.dW (by omega) (.inl g)
  · rw [List.take_succ_eq_append_getElem hi, h.at_]; simp
  · intro y hy
    rcases List.mem_append.1 hy with q | q
    · exact h.dW y q
    · rw [List.mem_singleton] at q; rw [q]; exact hx
theorem RdI.figR {b W R : List UInt8} {i : Nat} (h : RdI b i W R true) (hi : i < b.length) (hx : isD b[i] = true) : (9 ≤ R.length → readOk b = false) ∧ (R.length < 9 → RdI b (i + 1) W (R ++ [b[i]]) true) := by
  have hs := h.split hi
  refine ⟨fun g => ?_, fun g => ⟨?_, by omega, h.w30, by simp; omega, h.dW, ?_, (fun h => nomatch h), fun _ => h.on rfl⟩⟩
  · rw [hs]
    exact bad_rest h.dW (.inl g)
  · rw [List.take_succ_eq_append_getElem hi, h.at_]; simp
  · intro y hy
    rcases List.mem_append.1 hy with q | q
    · exact h.dR y q
    · rw [List.mem_singleton] at q; rw [q]; exact hx
theorem RdI.dot {b W R : List UInt8} {i : Nat} (h : RdI b i W R false) (hi : i < b.length) (hx : b[i] = 46) : (W = [] → readOk b = false) ∧ (W ≠ [] → RdI b (i + 1) W [] true) := by
  have hs := h.split hi
  rw [hx] at hs
  refine ⟨fun g => ?_, fun g => ⟨?_, by omega, h.w30, by simp, h.dW, by simp, (fun h => nomatch h), fun _ => g⟩⟩
  · rw [hs, g]; exact bad_dot _
  · rw [List.take_succ_eq_append_getElem hi, h.at_, hx]; simp
theorem RdI.bad {b W R : List UInt8} {i : Nat} {pt : Bool} (h : RdI b i W R pt) (hi : i < b.length) (hx : isD b[i] = false) (hp : pt = true ∨ b[i] ≠ 46) : readOk b = false := by
  have hs := h.split hi
  rw [hs]
  cases pt with
  | true => exact bad_rest h.dW (.inr hx)
  | false =>
    refine bad_whole h.dW (fun e => ?_) (.inr hx)
    rcases hp with g | g
    · cases g
    · exact g (UInt8.toNat_inj.1 e)
/-- At the end. -/
theorem RdI.fin {b W R : List UInt8} {pt : Bool} (h : RdI b b.length W R pt) (ng : Bool) :
    readB ng b = if W = [] ∨ (pt = true ∧ R = []) ∨ (ng = true ∧ valD (W ++ R) = 0) then errD 2 else dmade ng (valD (W ++ R)) (R.length : Int) := by
  have hb : b = W ++ (if pt = true then [46] ++ R else []) := by have := h.at_; rwa [List.take_length] at this
  have bad : readOk b = false → readB ng b = errD 2 := fun g => if_pos g
  by_cases h1 : W = []
  · rw [if_pos (.inl h1)]
    have hpt : pt = false := by
      cases hp : pt with
      | false => rfl
      | true => exact absurd h1 (h.on hp)
    refine bad ?_
    rw [hb, h1, hpt]; rfl
  by_cases h2 : pt = true ∧ R = []
  · rw [if_pos (.inr (.inl h2))]
    refine bad ?_
    rw [hb, h2.1, if_pos rfl]
    unfold readOk
    show (runF (wholeF (W ++ 46 :: R)) 30 && (!pointF (W ++ 46 :: R) || runF (restF (W ++ 46 :: R)) 9)) = false
    rw [rest_pre (isD_ne h.dW), point_pre (isD_ne h.dW), dot_rest, dot_point, h2.2, runF_no (.inl rfl)]; simp
  have hr := read_txt (ng := ng) (pt := pt) h1 h.dW h.dR h.off (fun hp => ⟨fun e => h2 ⟨hp, e⟩, h.r9⟩)
  rw [readF_B, txt_hasP h1 h.dW, txt_body h1 h.dW, ← hb, if_neg (by have := h.w30; omega)] at hr
  rw [hr]
  by_cases h3 : ng = true ∧ valD (W ++ R) = 0
  · have q : W = [] ∨ (pt = true ∧ R = []) ∨ (ng = true ∧ valD (W ++ R) = 0) := .inr (.inr h3)
    rw [if_pos q, h3.1, h3.2, if_neg (by decide), if_pos (by decide)]
  · have q : ¬ (W = [] ∨ (pt = true ∧ R = []) ∨ (ng = true ∧ valD (W ++ R) = 0)) := by
      rintro (g | g | g)
      · exact h1 g
      · exact h2 g
      · exact h3 g
    rw [if_neg q]
    have hnz : (ng && decide (valD (W ++ R) = 0)) = false := by
      cases ng <;> simp at h3 ⊢; exact h3
    unfold dmade
    by_cases h4 : 10 ^ 30 ≤ valD (W ++ R)
    · rw [if_pos h4, if_neg (by omega)]
    · rw [if_neg h4, if_neg (by rw [hnz]; decide), if_pos (by omega)]
      have : (ng && !decide (valD (W ++ R) = 0)) = ng := by cases ng <;> simp at h3 ⊢; exact h3
      rw [this]
end Go.Ev
end

/- The document's Read walked. No condition. -/
noncomputable section
namespace Go.Ev
open Go.Proofs
variable [Lk]
set_option linter.unusedSectionVars false
set_option linter.unusedVariables false
set_option maxRecDepth 100000

theorem hasP_cons (x : UInt8) (l : List UInt8) : hasP (x :: l) [45] = (((x.toNat : Nat) : Int) == 45) := by
  show (true && ([x] == [45])) = _
  rw [Bool.true_and, Bool.eq_iff_iff, beq_iff_eq, beq_iff_eq]
  constructor
  · intro h; injection h with h; rw [h]; rfl
  · intro h
    have : x = 45 := UInt8.toNat_inj.1 (by show x.toNat = 45; omega)
    rw [this]
theorem u8_fig {x : UInt8} (h : isD x = true) : IntKind.i64.wrap (IntKind.u8.wrap (((x.toNat : Nat) : Int) - 48)) = ((x.toNat - 48 : Nat) : Int) := by
  have := isD_iff.1 h
  rw [wrap_u8i, wi64 (by omega) (by omega)]; omega
theorem rread_spec {z : St} (wf : WF z) (l : List UInt8) (hl : l.length < 4611686018427387904) : Cw Tryd.prog 37 [sv l] z fun r s' => K0 z s' ∧ r = readF l := by
  have hp : Hp (fun _ => False) z [] [] z := Hp.start _ wf _ (by simp)
  refine Cw.enterS Tryd.func37 rfl rfl ?_
  refine Sm.seqW ?_
  conv => whnf
  refine hp.alloc (cs := Dc.zero.cells) (e := 4) rfl rfl rfl rfl rfl ?_
  clear hp
  intro p2 s hp _
  conv => whnf
  refine Sm.live [0, 2] ?_
  conv => whnf
  refine Sm.seqC (fun e L' s' => e = .normal ∧ s' = s ∧ Sub [(0, sv l), (2, .pointer (some ⟨p2, 0, none⟩)), (4, .bool (hasP l [45]))] L') ?_ ?_
  · conv => whnf
    cases l with
    | nil =>
      repeat (first | (refine Br.yes (by first | with_reducible rfl | with_reducible exact beq_self_eq_true _ | rfl) ?_; conv => whnf) | (refine Br.no (by first | with_reducible rfl | with_reducible exact bne_self_eq_false _ | rfl) ?_; conv => whnf))
      exact ⟨rfl, rfl, subK_ok ⟨rfl, rfl, rfl, trivial⟩⟩
    | cons x l =>
      have q : decide ((((bs ⟨(x :: l).toArray⟩).length : Nat) : Int) > 0) = true := decide_eq_true (by show (((x :: l).length : Nat) : Int) > 0; simp)
      repeat (first | (refine Br.yes q ?_; conv => whnf) | (first | (refine Br.yes (by first | with_reducible rfl | with_reducible exact beq_self_eq_true _ | rfl) ?_; conv => whnf) | (refine Br.no (by first | with_reducible rfl | with_reducible exact bne_self_eq_false _ | rfl) ?_; conv => whnf)))
      refine Om.of _ (str_index Tryd.underlying9 (l := x :: l) (i := 0) (by simp) .i64) ?_
      conv => whnf
      repeat (first | (refine Br.yes q ?_; conv => whnf) | (first | (refine Br.yes (by first | with_reducible rfl | with_reducible exact beq_self_eq_true _ | rfl) ?_; conv => whnf) | (refine Br.no (by first | with_reducible rfl | with_reducible exact bne_self_eq_false _ | rfl) ?_; conv => whnf)))
      exact ⟨rfl, rfl, subK_ok ⟨rfl, rfl, congrArg (fun x => some (Value.bool x)) (hasP_cons x l).symm, trivial⟩⟩
  rintro e L' s' ⟨rfl, rfl, hs⟩
  refine Sm.weak _ hs ?_
  clear hs
  refine Sm.seqC (fun e L' s'' => e = .normal ∧ s'' = s' ∧ Sub [(0, sv (bodyF l)), (2, .pointer (some ⟨p2, 0, none⟩)), (4, .bool (hasP l [45]))] L') ?_ ?_
  · conv => whnf
    cases hng : hasP l [45] with
    | false =>
      repeat (first | (refine Br.yes (by first | with_reducible rfl | with_reducible exact beq_self_eq_true _ | rfl) ?_; conv => whnf) | (refine Br.no (by first | with_reducible rfl | with_reducible exact bne_self_eq_false _ | rfl) ?_; conv => whnf))
      exact ⟨rfl, rfl, subK_ok ⟨congrArg (fun x => some (sv x)) (show l = bodyF l from (if_neg (by rw [hng]; decide)).symm), rfl, rfl, trivial⟩⟩
    | true =>
      repeat (first | (refine Br.yes (by first | with_reducible rfl | with_reducible exact beq_self_eq_true _ | rfl) ?_; conv => whnf) | (refine Br.no (by first | with_reducible rfl | with_reducible exact bne_self_eq_false _ | rfl) ?_; conv => whnf))
      have h1 : 1 ≤ l.length := by
        cases l with
        | nil => cases hng
        | cons x l => simp
      refine Om.of _ (str_drop Tryd.underlying9 .i64 (l := l) (j := 1) h1) ?_
      conv => whnf
      exact ⟨rfl, rfl, subK_ok ⟨congrArg (fun x => some (sv x)) (show l.drop 1 = bodyF l from (if_pos hng).symm), rfl, rfl, trivial⟩⟩
  rintro e L' s' ⟨rfl, rfl, hs⟩
  refine Sm.weak _ hs ?_
  clear hs
  rw [readF_B]
  have hb := body_len l
  generalize hasP l [45] = ng at *
  obtain ⟨b, hbe⟩ : ∃ b, b = bodyF l := ⟨_, rfl⟩
  rw [← hbe] at hb ⊢
  have hbl : b.length < 4611686018427387904 := by omega
  refine Sm.seqW ?_
  conv => whnf
  refine Sm.live [0, 2, 4, 5] ?_
  conv => whnf
  refine Sm.seqW ?_
  conv => whnf
  refine Sm.live [0, 2, 4, 5, 6] ?_
  conv => whnf
  refine Sm.seqW ?_
  conv => whnf
  refine Sm.live [0, 2, 4, 5, 6, 7] ?_
  conv => whnf
  refine Sm.seqW ?_
  conv => whnf
  refine Sm.live [0, 2, 4, 5, 6, 7, 8] ?_
  conv => whnf
  refine Sm.seq ?_
  refine Sm.seqW ?_
  conv => whnf
  refine Sm.live [0, 2, 4, 5, 6, 7, 8, 9] ?_
  conv => whnf
  refine Sm.block ?_
  refine Sm.loop ?_
  refine Lp.ofS (α := Nat × List UInt8 × List UInt8 × Bool × Option Nat × Value) (fun x => [(0, sv b), (2, .pointer (some ⟨p2, 0, none⟩)), (4, .bool ng), (5, x.2.2.2.2.2), (6, .int .i64 ((x.2.1.length : Nat) : Int)), (7, .int .i64 ((x.2.2.1.length : Nat) : Int)), (8, .bool x.2.2.2.1), (9, .int .i64 (x.1 : Int))])
    (fun x s' => RdI b x.1 x.2.1 x.2.2.1 x.2.2.2.1 ∧ Hp (fun _ => False) z [] [slA x.2.2.2.2.1 x.2.2.2.2.2 1 (nL (x.2.1 ++ x.2.2.1)).length (natI (nL (x.2.1 ++ x.2.2.1))), blkA p2 p2 Dc.zero.cells 4] s')
    (fun x => b.length - x.1) ?_ (0, [], [], false, none, .slice none 0 0) (subK_ok (by refine ⟨rfl, rfl, rfl, rfl, rfl, rfl, rfl, rfl, trivial⟩))
    ⟨⟨by simp, by omega, by simp, by simp, by simp, by simp, fun _ => rfl, fun h => nomatch h⟩, ((hp.nilA 1).toSl (by repeat (first | exact Rm.here | apply Rm.there)) (Sl.nil _ _)).pik (by repeat (first | exact Pik.nil | exact Pik.refl _ | exact Rm.here | apply Rm.there | apply Pik.cons | apply Pik.skip))⟩
  clear hp
  rintro ⟨i, W, R, pt, κ, v⟩ s ⟨ok, hp⟩
  simp only at ok hp
  have hle := ok.le
  have hw30 := ok.w30
  have hr9 := ok.r9
  refine Sm.seq ?_
  refine Sm.seqW ?_
  conv => whnf
  refine Sm.live [0, 2, 4, 5, 6, 7, 8, 9, 24] ?_
  conv => whnf
  refine Sm.ofW ?_
  conv => whnf
  refine Br.mk (fun hc => ?_) (fun hc => ?_)
  · have hcI : i < b.length := by have h : (i : Int) < (b.length : Int) := of_decide_eq_true hc; omega
    conv => whnf
    refine Sm.seq ?_
    refine Sm.block ?_
    refine Sm.block ?_
    refine Sm.seqC (fun e L' s' => e = .normal ∧ s' = s ∧ Sub [(0, sv b), (2, .pointer (some ⟨p2, 0, none⟩)), (4, .bool ng), (5, v), (6, .int .i64 ((W.length : Nat) : Int)), (7, .int .i64 ((R.length : Nat) : Int)), (8, .bool pt), (9, .int .i64 (i : Int)), (28, .bool (isD b[i]))] L') ?_ ?_
    · conv => whnf
      refine Om.of _ (str_index Tryd.underlying9 (l := b) (i := i) hcI .i64) ?_
      conv => whnf
      by_cases g : 48 ≤ b[i].toNat
      · have q : decide (((b[i].toNat : Nat) : Int) ≥ 48) = true := decide_eq_true (by omega)
        repeat (first | (refine Br.yes q ?_; conv => whnf) | (first | (refine Br.yes (by first | with_reducible rfl | with_reducible exact beq_self_eq_true _ | rfl) ?_; conv => whnf) | (refine Br.no (by first | with_reducible rfl | with_reducible exact bne_self_eq_false _ | rfl) ?_; conv => whnf)))
        refine Om.of _ (str_index Tryd.underlying9 (l := b) (i := i) hcI .i64) ?_
        conv => whnf
        repeat (first | (refine Br.yes q ?_; conv => whnf) | (first | (refine Br.yes (by first | with_reducible rfl | with_reducible exact beq_self_eq_true _ | rfl) ?_; conv => whnf) | (refine Br.no (by first | with_reducible rfl | with_reducible exact bne_self_eq_false _ | rfl) ?_; conv => whnf)))
        exact ⟨rfl, rfl, subK_ok ⟨rfl, rfl, rfl, rfl, rfl, rfl, rfl, rfl, congrArg (fun x => some (Value.bool x)) (show _ = decide _ from decide_eq_decide.2 (by omega)), trivial⟩⟩
      · have q : decide (((b[i].toNat : Nat) : Int) ≥ 48) = false := decide_eq_false (by omega)
        repeat (first | (refine Br.no q ?_; conv => whnf) | (first | (refine Br.yes (by first | with_reducible rfl | with_reducible exact beq_self_eq_true _ | rfl) ?_; conv => whnf) | (refine Br.no (by first | with_reducible rfl | with_reducible exact bne_self_eq_false _ | rfl) ?_; conv => whnf)))
        have hd : isD b[i] = false := decide_eq_false (by omega)
        rw [hd]
        exact ⟨rfl, rfl, subK_ok ⟨rfl, rfl, rfl, rfl, rfl, rfl, rfl, rfl, rfl, trivial⟩⟩
    rintro e L' s' ⟨rfl, rfl, hs⟩
    refine Sm.weak _ hs ?_
    clear hs
    refine Sm.ofW ?_
    conv => whnf
    have ei : IntKind.i64.wrap ((i : Int) + 1) = ((i + 1 : Nat) : Int) := by rw [wi64 (by omega) (by omega)]; omega
    obtain ⟨aR, cR, rfl⟩ := Sl.shape (show Sl s' κ v 1 (nL (W ++ R)).length (natI (nL (W ++ R))) from hp.okF (slA κ v 1 (nL (W ++ R)).length (natI (nL (W ++ R)))) (by simp))
    cases hd : isD b[i] with
    | true =>
      repeat (first | (refine Br.yes (by first | with_reducible rfl | with_reducible exact beq_self_eq_true _ | rfl) ?_; conv => whnf) | (refine Br.no (by first | with_reducible rfl | with_reducible exact bne_self_eq_false _ | rfl) ?_; conv => whnf))
      refine Om.of _ (str_index Tryd.underlying9 (l := b) (i := i) hcI .i64) ?_
      conv => whnf
      rw [u8_fig hd]
      have hnl : (nL (W ++ R)).length ≤ 39 := by rw [nL_len, List.length_append]; omega
      refine hp.one ID rfl ?_
      clear hp
      intro v4 b4 s4 hp _
      conv => whnf
      have x4 : Sl s4 κ (.slice aR (nL (W ++ R)).length cR) 1 (nL (W ++ R)).length (natI (nL (W ++ R))) := hp.okF (slA κ (.slice aR (nL (W ++ R)).length cR) 1 (nL (W ++ R)).length (natI (nL (W ++ R)))) (by simp)
      obtain ⟨a4, c4, rfl⟩ := (hp.okF _ List.mem_cons_self : Own s4 b4 v4 1 1 _).sl.shape
      refine (hp.toOn (k := b4) (by repeat (first | exact Rm.here | apply Rm.there))).app ID Tryd.underlying86 rfl (κ := some b4) (v := .slice a4 1 c4) (by repeat (first | exact Rm.here | apply Rm.there)) (elems_sl x4) (by rw [natI_len]; omega) (by simp [natI]; intros; rfl) (by omega) ?_
      clear hp x4
      intro v5 κ5 s5 hp
      have hnv : [Value.int .i64 ((b[i].toNat - 48 : Nat) : Int)] ++ natI (nL (W ++ R)) = natI ((b[i].toNat - 48) :: nL (W ++ R)) := by simp [natI]
      have hln : 1 + (nL (W ++ R)).length = ((b[i].toNat - 48) :: nL (W ++ R)).length := by simp; omega
      rw [hnv, hln, ← nL_snoc] at hp
      replace hp := hp.toSl (by repeat (first | exact Rm.here | apply Rm.there)) (hp.slF (κ := κ5) (v := v5) (by repeat (first | exact Rm.here | apply Rm.there)))
      conv => whnf
      cases pt with
      | false =>
        obtain rfl := ok.off rfl
        obtain ⟨f1, f2⟩ := ok.fig hcI hd
        have eh : IntKind.i64.wrap ((W.length : Int) + 1) = (((W ++ [b[i]]).length : Nat) : Int) := by rw [wi64 (by omega) (by omega)]; simp
        repeat (first | (refine Br.yes (by first | with_reducible rfl | with_reducible exact beq_self_eq_true _ | rfl) ?_; conv => whnf) | (refine Br.no (by first | with_reducible rfl | with_reducible exact bne_self_eq_false _ | rfl) ?_; conv => whnf))
        by_cases h30 : 30 ≤ W.length
        · have q : decide (IntKind.i64.wrap ((W.length : Int) + 1) > 30) = true := decide_eq_true (by rw [wi64 (by omega) (by omega)]; omega)
          repeat (first | (refine Br.yes q ?_; conv => whnf) | (first | (refine Br.yes (by first | with_reducible rfl | with_reducible exact beq_self_eq_true _ | rfl) ?_; conv => whnf) | (refine Br.no (by first | with_reducible rfl | with_reducible exact bne_self_eq_false _ | rfl) ?_; conv => whnf)))
          refine hp.storeW (vs := Dc.zero.cells) rfl (by repeat (first | exact Rm.here | apply Rm.there)) (by first | exact C2_same _ _ _ _ | exact C4_same _ _ _ _ _ _ _ _ | exact Dc_same _ _ | rfl) rfl rfl rfl ?_
          clear hp
          intro s hp _
          conv => whnf
          refine hp.loadA (l := Dc.zero.cells) (by repeat (first | exact Has.here | apply Has.there | (apply Has.swap; repeat (first | exact HasR.here | apply HasR.there)))) rfl (by rfl) rfl rfl ?_
          conv => whnf
          exact ⟨hp.fr, by rw [show readB ng b = errD 2 from if_pos (f1 h30)]; rfl⟩
        · have q : decide (IntKind.i64.wrap ((W.length : Int) + 1) > 30) = false := decide_eq_false (by rw [wi64 (by omega) (by omega)]; omega)
          repeat (first | (refine Br.no q ?_; conv => whnf) | (first | (refine Br.yes (by first | with_reducible rfl | with_reducible exact beq_self_eq_true _ | rfl) ?_; conv => whnf) | (refine Br.no (by first | with_reducible rfl | with_reducible exact bne_self_eq_false _ | rfl) ?_; conv => whnf)))
          rw [List.append_nil] at hp
          refine Sm.ofW ?_
          conv => whnf
          exact ⟨(i + 1, W ++ [b[i]], [], false, κ5, v5), by (show b.length - (i + 1) < b.length - i); omega, subK_ok (by refine ⟨rfl, rfl, rfl, rfl, ?_, ?_, rfl, ?_, trivial⟩ <;> first | rfl | (refine congrArg (fun x => some (Value.int .i64 x)) ?_; first | exact eh | exact ei)), f2 (by omega), by (show Hp _ _ _ _ _); rw [List.append_nil]; exact hp.pik (by repeat (first | exact Pik.nil | exact Pik.refl _ | exact Rm.here | apply Rm.there | apply Pik.cons | apply Pik.skip))⟩
      | true =>
        obtain ⟨f1, f2⟩ := ok.figR hcI hd
        have eh : IntKind.i64.wrap ((R.length : Int) + 1) = (((R ++ [b[i]]).length : Nat) : Int) := by rw [wi64 (by omega) (by omega)]; simp
        have q0 : decide ((W.length : Int) > 30) = false := decide_eq_false (by omega)
        by_cases h9 : 9 ≤ R.length
        · have q : decide (IntKind.i64.wrap ((R.length : Int) + 1) > 9) = true := decide_eq_true (by rw [wi64 (by omega) (by omega)]; omega)
          repeat (first | (refine Br.no q0 ?_; conv => whnf) | (refine Br.yes q ?_; conv => whnf) | (first | (refine Br.yes (by first | with_reducible rfl | with_reducible exact beq_self_eq_true _ | rfl) ?_; conv => whnf) | (refine Br.no (by first | with_reducible rfl | with_reducible exact bne_self_eq_false _ | rfl) ?_; conv => whnf)))
          refine hp.storeW (vs := Dc.zero.cells) rfl (by repeat (first | exact Rm.here | apply Rm.there)) (by first | exact C2_same _ _ _ _ | exact C4_same _ _ _ _ _ _ _ _ | exact Dc_same _ _ | rfl) rfl rfl rfl ?_
          clear hp
          intro s hp _
          conv => whnf
          refine hp.loadA (l := Dc.zero.cells) (by repeat (first | exact Has.here | apply Has.there | (apply Has.swap; repeat (first | exact HasR.here | apply HasR.there)))) rfl (by rfl) rfl rfl ?_
          conv => whnf
          exact ⟨hp.fr, by rw [show readB ng b = errD 2 from if_pos (f1 h9)]; rfl⟩
        · have q : decide (IntKind.i64.wrap ((R.length : Int) + 1) > 9) = false := decide_eq_false (by rw [wi64 (by omega) (by omega)]; omega)
          repeat (first | (refine Br.no q0 ?_; conv => whnf) | (refine Br.no q ?_; conv => whnf) | (first | (refine Br.yes (by first | with_reducible rfl | with_reducible exact beq_self_eq_true _ | rfl) ?_; conv => whnf) | (refine Br.no (by first | with_reducible rfl | with_reducible exact bne_self_eq_false _ | rfl) ?_; conv => whnf)))
          refine Sm.ofW ?_
          conv => whnf
          exact ⟨(i + 1, W, R ++ [b[i]], true, κ5, v5), by (show b.length - (i + 1) < b.length - i); omega, subK_ok (by refine ⟨rfl, rfl, rfl, rfl, ?_, ?_, rfl, ?_, trivial⟩ <;> first | rfl | (refine congrArg (fun x => some (Value.int .i64 x)) ?_; first | exact eh | exact ei)), f2 (by omega), by (show Hp _ _ _ _ _); rw [← List.append_assoc]; exact hp.pik (by repeat (first | exact Pik.nil | exact Pik.refl _ | exact Rm.here | apply Rm.there | apply Pik.cons | apply Pik.skip))⟩
    | false =>
      repeat (first | (refine Br.yes (by first | with_reducible rfl | with_reducible exact beq_self_eq_true _ | rfl) ?_; conv => whnf) | (refine Br.no (by first | with_reducible rfl | with_reducible exact bne_self_eq_false _ | rfl) ?_; conv => whnf))
      refine Om.of _ (str_index Tryd.underlying9 (l := b) (i := i) hcI .i64) ?_
      conv => whnf
      by_cases hx : b[i] = 46
      · have q : (((b[i].toNat : Nat) : Int) == 46) = true := by rw [hx]; rfl
        cases pt with
        | true =>
          repeat (first | (refine Br.yes q ?_; conv => whnf) | (first | (refine Br.yes (by first | with_reducible rfl | with_reducible exact beq_self_eq_true _ | rfl) ?_; conv => whnf) | (refine Br.no (by first | with_reducible rfl | with_reducible exact bne_self_eq_false _ | rfl) ?_; conv => whnf)))
          refine hp.storeW (vs := Dc.zero.cells) rfl (by repeat (first | exact Rm.here | apply Rm.there)) (by first | exact C2_same _ _ _ _ | exact C4_same _ _ _ _ _ _ _ _ | exact Dc_same _ _ | rfl) rfl rfl rfl ?_
          clear hp
          intro s hp _
          conv => whnf
          refine hp.loadA (l := Dc.zero.cells) (by repeat (first | exact Has.here | apply Has.there | (apply Has.swap; repeat (first | exact HasR.here | apply HasR.there)))) rfl (by rfl) rfl rfl ?_
          conv => whnf
          exact ⟨hp.fr, by rw [show readB ng b = errD 2 from if_pos (ok.bad hcI hd (.inl rfl))]; rfl⟩
        | false =>
          obtain rfl := ok.off rfl
          obtain ⟨f1, f2⟩ := ok.dot hcI hx
          by_cases hW : W = []
          · subst hW
            repeat (first | (refine Br.yes q ?_; conv => whnf) | (first | (refine Br.yes (by first | with_reducible rfl | with_reducible exact beq_self_eq_true _ | rfl) ?_; conv => whnf) | (refine Br.no (by first | with_reducible rfl | with_reducible exact bne_self_eq_false _ | rfl) ?_; conv => whnf)))
            refine hp.storeW (vs := Dc.zero.cells) rfl (by repeat (first | exact Rm.here | apply Rm.there)) (by first | exact C2_same _ _ _ _ | exact C4_same _ _ _ _ _ _ _ _ | exact Dc_same _ _ | rfl) rfl rfl rfl ?_
            clear hp
            intro s hp _
            conv => whnf
            refine hp.loadA (l := Dc.zero.cells) (by repeat (first | exact Has.here | apply Has.there | (apply Has.swap; repeat (first | exact HasR.here | apply HasR.there)))) rfl (by rfl) rfl rfl ?_
            conv => whnf
            exact ⟨hp.fr, by rw [show readB ng b = errD 2 from if_pos (f1 rfl)]; rfl⟩
          · have hWl : 0 < W.length := List.length_pos_iff.2 hW
            have q2 : decide ((W.length : Int) > 0) = true := decide_eq_true (by omega)
            repeat (first | (refine Br.yes q ?_; conv => whnf) | (refine Br.yes q2 ?_; conv => whnf) | (first | (refine Br.yes (by first | with_reducible rfl | with_reducible exact beq_self_eq_true _ | rfl) ?_; conv => whnf) | (refine Br.no (by first | with_reducible rfl | with_reducible exact bne_self_eq_false _ | rfl) ?_; conv => whnf)))
            have eh : (0 : Int) = 0 := rfl
            refine Sm.ofW ?_
            conv => whnf
            exact ⟨(i + 1, W, [], true, κ, .slice aR (nL (W ++ [])).length cR), by (show b.length - (i + 1) < b.length - i); omega, subK_ok (by refine ⟨rfl, rfl, rfl, rfl, ?_, ?_, rfl, ?_, trivial⟩ <;> first | rfl | (refine congrArg (fun x => some (Value.int .i64 x)) ?_; first | exact eh | exact ei)), f2 hW, hp.pik (by repeat (first | exact Pik.nil | exact Pik.refl _ | exact Rm.here | apply Rm.there | apply Pik.cons | apply Pik.skip))⟩
      · have q : (((b[i].toNat : Nat) : Int) == 46) = false := beq_eq_false_iff_ne.2 (fun e => hx (UInt8.toNat_inj.1 (by show b[i].toNat = 46; omega)))
        repeat (first | (refine Br.no q ?_; conv => whnf) | (first | (refine Br.yes (by first | with_reducible rfl | with_reducible exact beq_self_eq_true _ | rfl) ?_; conv => whnf) | (refine Br.no (by first | with_reducible rfl | with_reducible exact bne_self_eq_false _ | rfl) ?_; conv => whnf)))
        refine hp.storeW (vs := Dc.zero.cells) rfl (by repeat (first | exact Rm.here | apply Rm.there)) (by first | exact C2_same _ _ _ _ | exact C4_same _ _ _ _ _ _ _ _ | exact Dc_same _ _ | rfl) rfl rfl rfl ?_
        clear hp
        intro s hp _
        conv => whnf
        refine hp.loadA (l := Dc.zero.cells) (by repeat (first | exact Has.here | apply Has.there | (apply Has.swap; repeat (first | exact HasR.here | apply HasR.there)))) rfl (by rfl) rfl rfl ?_
        conv => whnf
        exact ⟨hp.fr, by rw [show readB ng b = errD 2 from if_pos (ok.bad hcI hd (.inr hx))]; rfl⟩
  · have hc : ¬ i < b.length := by have h : ¬ (i : Int) < (b.length : Int) := of_decide_eq_false hc; omega
    obtain rfl : i = b.length := by omega
    have hfin := ok.fin ng
    have hnl : (nL (W ++ R)).length ≤ 39 := by rw [nL_len, List.length_append]; omega
    have hall : ∀ x ∈ W ++ R, isD x = true := fun x hx => by
      rcases List.mem_append.1 hx with g | g
      · exact ok.dW x g
      · exact ok.dR x g
    obtain ⟨t1, t2, t3⟩ := trim_ok _ (nL (W ++ R)) rfl (nL_lt hall)
    rw [Vd_nL] at t2
    conv => whnf
    refine Sm.seqW ?_
    conv => whnf
    refine (trim_spec _ (hp.okF (slA κ v 1 (nL (W ++ R)).length (natI (nL (W ++ R)))) (by simp)) (by omega)).mono ?_
    rintro v6 s6 ⟨rfl, hr6⟩
    obtain ⟨a6, c6, rfl⟩ := hr6.shape
    generalize hT : trimL (nL (W ++ R)) = T at *
    have hz := t1.zero
    rw [t2] at hz
    conv => whnf
    refine Sm.live [2, 4, 5, 6, 7, 8] ?_
    conv => whnf
    refine Sm.seq ?_
    refine Sm.seqC (fun e L' s'' => e = .normal ∧ s'' = s6 ∧ Sub [(2, .pointer (some ⟨p2, 0, none⟩)), (4, .bool ng), (5, .slice a6 T.length c6), (7, .int .i64 ((R.length : Nat) : Int)), (90, .bool (decide (W = [] ∨ (pt = true ∧ R = []) ∨ (ng = true ∧ valD (W ++ R) = 0))))] L') ?_ ?_
    · have key : ∀ bb : Bool, (bb = true ↔ (W.length = 0 ∨ (pt = true ∧ R.length = 0) ∨ (ng = true ∧ T.length = 0))) → bb = decide (W = [] ∨ (pt = true ∧ R = []) ∨ (ng = true ∧ valD (W ++ R) = 0)) := fun bb hbb => by
        rw [Bool.eq_iff_iff, hbb, decide_eq_true_iff, List.length_eq_zero_iff, List.length_eq_zero_iff, hz]
      clear hfin hz hnl hr9 hw30 hp hr6 t1 t2 t3 ok hT
      conv => whnf
      repeat' (first | (refine Br.yes (by first | with_reducible rfl | with_reducible assumption) ?_; conv => whnf) | (refine Br.no (by first | with_reducible rfl | with_reducible assumption) ?_; conv => whnf) | (refine Br.mk (fun hq => ?_) (fun hq => ?_) <;> conv => whnf))
      all_goals refine ⟨rfl, rfl, subK_ok ⟨rfl, rfl, rfl, rfl, congrArg (fun x => some (Value.bool x)) (key _ ?_), trivial⟩⟩
      all_goals (clear key; cases pt <;> cases ng <;> simp [-List.length_eq_zero_iff] at * <;> omega)
    rintro e L' s' ⟨rfl, rfl, hs⟩
    refine Sm.weak _ hs ?_
    clear hs
    refine Sm.ofW ?_
    conv => whnf
    refine Br.mk (fun hc => ?_) (fun hc => ?_)
    · have hc := of_decide_eq_true hc
      rw [if_pos hc] at hfin
      conv => whnf
      refine hp.storeW (vs := Dc.zero.cells) rfl (by repeat (first | exact Rm.here | apply Rm.there)) (by first | exact C2_same _ _ _ _ | exact C4_same _ _ _ _ _ _ _ _ | exact Dc_same _ _ | rfl) rfl rfl rfl ?_
      clear hp
      intro s hp _
      conv => whnf
      refine hp.loadA (l := Dc.zero.cells) (by repeat (first | exact Has.here | apply Has.there | (apply Has.swap; repeat (first | exact HasR.here | apply HasR.there)))) rfl (by rfl) rfl rfl ?_
      conv => whnf
      exact ⟨hp.fr, by rw [hfin]; rfl⟩
    · have hc := of_decide_eq_false hc
      rw [if_neg hc] at hfin
      conv => whnf
      refine Sm.seqW ?_
      conv => whnf
      refine hp.call (make_spec hp.wf ng (l := T) hr6 t1 (by omega) ((R.length : Nat) : Int)) ?_
      clear hp
      rintro _ s rfl hp _
      conv => whnf
      rw [makeF_ok (by omega) (by omega), t2, ← hfin]
      obtain ⟨r, re, hx⟩ := dmade_shape ng (valD (W ++ R)) ((R.length : Nat) : Int)
      rw [← hfin] at hx
      rw [hx]
      conv => whnf
      refine hp.storeW (vs := r.cells) rfl (by repeat (first | exact Rm.here | apply Rm.there)) (by first | exact C2_same _ _ _ _ | exact C4_same _ _ _ _ _ _ _ _ | exact Dc_same _ _ | rfl) rfl rfl rfl ?_
      clear hp
      intro s hp _
      conv => whnf
      refine Sm.ofW ?_
      conv => whnf
      refine hp.loadA (l := r.cells) (by repeat (first | exact Has.here | apply Has.there | (apply Has.swap; repeat (first | exact HasR.here | apply HasR.there)))) rfl (by rfl) rfl rfl ?_
      conv => whnf
      exact ⟨hp.fr, rfl⟩
end Go.Ev
end

/- lex.letter, digit, part, run; the document's digit. No condition. -/
noncomputable section
namespace Go.Ev
open Go.Proofs
variable [Lk]
set_option linter.unusedSectionVars false
set_option linter.unusedVariables false
set_option maxRecDepth 100000

def isL (x : UInt8) : Bool := decide (97 ≤ x.toNat ∧ x.toNat ≤ 122)
def isP (x : UInt8) : Bool := isD x || decide (x = 46)
theorem isL_iff {x : UInt8} : isL x = true ↔ 97 ≤ x.toNat ∧ x.toNat ≤ 122 := decide_eq_true_iff
theorem xletter_spec (s : St) (c : UInt8) : Cw Tryd.prog 46 [.int .u8 ((c.toNat : Nat) : Int)] s fun r s' => s' = s ∧ r = .bool (isL c) := by
  refine Cw.enterS Tryd.func46 rfl rfl ?_
  refine Sm.seqW ?_
  conv => whnf
  refine Sm.live [0] ?_
  conv => whnf
  refine Sm.seqW ?_
  conv => whnf
  repeat' (first | (refine Br.yes (by first | with_reducible rfl | with_reducible assumption) ?_; conv => whnf) | (refine Br.no (by first | with_reducible rfl | with_reducible assumption) ?_; conv => whnf) | (refine Br.mk (fun hq => ?_) (fun hq => ?_) <;> conv => whnf))
  all_goals refine Sm.ofW ?_
  all_goals conv => whnf
  all_goals refine ⟨rfl, congrArg Value.bool ?_⟩
  all_goals unfold isL
  all_goals first | exact (decide_eq_false (by simp at *; omega)).symm | exact (decide_eq_true (by simp at *; omega)).symm | exact decide_eq_decide.2 (by simp at *; omega)
theorem xdigit_spec (s : St) (c : UInt8) : Cw Tryd.prog 48 [.int .u8 ((c.toNat : Nat) : Int)] s fun r s' => s' = s ∧ r = .bool (isD c) := by
  refine Cw.enterS Tryd.func48 rfl rfl ?_
  refine Sm.seqW ?_
  conv => whnf
  refine Sm.live [0] ?_
  conv => whnf
  refine Sm.seqW ?_
  conv => whnf
  repeat' (first | (refine Br.yes (by first | with_reducible rfl | with_reducible assumption) ?_; conv => whnf) | (refine Br.no (by first | with_reducible rfl | with_reducible assumption) ?_; conv => whnf) | (refine Br.mk (fun hq => ?_) (fun hq => ?_) <;> conv => whnf))
  all_goals refine Sm.ofW ?_
  all_goals conv => whnf
  all_goals refine ⟨rfl, congrArg Value.bool ?_⟩
  all_goals unfold isD
  all_goals first | exact (decide_eq_false (by simp at *; omega)).symm | exact (decide_eq_true (by simp at *; omega)).symm | exact decide_eq_decide.2 (by simp at *; omega)
theorem ydigit_spec (s : St) (c : UInt8) : Cw Tryd.prog 36 [.int .u8 ((c.toNat : Nat) : Int)] s fun r s' => s' = s ∧ r = .bool (isD c) := by
  refine Cw.enterS Tryd.func36 rfl rfl ?_
  refine Sm.seqW ?_
  conv => whnf
  refine Sm.live [0] ?_
  conv => whnf
  refine Sm.seqW ?_
  conv => whnf
  repeat' (first | (refine Br.yes (by first | with_reducible rfl | with_reducible assumption) ?_; conv => whnf) | (refine Br.no (by first | with_reducible rfl | with_reducible assumption) ?_; conv => whnf) | (refine Br.mk (fun hq => ?_) (fun hq => ?_) <;> conv => whnf))
  all_goals refine Sm.ofW ?_
  all_goals conv => whnf
  all_goals refine ⟨rfl, congrArg Value.bool ?_⟩
  all_goals unfold isD
  all_goals first | exact (decide_eq_false (by simp at *; omega)).symm | exact (decide_eq_true (by simp at *; omega)).symm | exact decide_eq_decide.2 (by simp at *; omega)
theorem u8_beq (x y : UInt8) : (((x.toNat : Nat) : Int) == ((y.toNat : Nat) : Int)) = decide (x = y) := by
  rw [Bool.eq_iff_iff, beq_iff_eq, decide_eq_true_iff]
  exact ⟨fun h => UInt8.toNat_inj.1 (by omega), fun h => by rw [h]⟩
theorem xpart_spec (s : St) (c : UInt8) : Cw Tryd.prog 49 [.int .u8 ((c.toNat : Nat) : Int)] s fun r s' => s' = s ∧ r = .bool (isP c) := by
  refine Cw.enterS Tryd.func49 rfl rfl ?_
  refine Sm.seqW ?_
  conv => whnf
  refine Sm.live [0] ?_
  conv => whnf
  refine Sm.seqW ?_
  conv => whnf
  refine (xdigit_spec _ c).mono ?_
  rintro _ s1 ⟨h1, rfl⟩
  obtain rfl := h1.symm
  conv => whnf
  unfold isP
  cases hd : isD c with
  | true =>
    repeat (first | (refine Br.yes (by first | with_reducible rfl | with_reducible exact beq_self_eq_true _ | rfl) ?_; conv => whnf) | (refine Br.no (by first | with_reducible rfl | with_reducible exact bne_self_eq_false _ | rfl) ?_; conv => whnf))
    refine Sm.ofW ?_
    conv => whnf
    exact ⟨rfl, rfl⟩
  | false =>
    repeat (first | (refine Br.yes (by first | with_reducible rfl | with_reducible exact beq_self_eq_true _ | rfl) ?_; conv => whnf) | (refine Br.no (by first | with_reducible rfl | with_reducible exact bne_self_eq_false _ | rfl) ?_; conv => whnf))
    refine Sm.ofW ?_
    conv => whnf
    exact ⟨rfl, congrArg Value.bool (u8_beq c 46)⟩
theorem xrun_spec (s : St) (l : List UInt8) (hl : l.length < 4611686018427387904) (at_ : Nat) (ha : at_ ≤ l.length) (g : Nat) (p : UInt8 → Bool)
    (hg : ∀ (s : St) (c : UInt8), Cw Tryd.prog g [.int .u8 ((c.toNat : Nat) : Int)] s fun r s' => s' = s ∧ r = .bool (p c)) :
    Cw Tryd.prog 47 [sv l, .int .i64 (at_ : Int), .func (.func g) #[] #[]] s fun r s' => s' = s ∧ r = .int .i64 ((at_ + ((l.drop at_).takeWhile p).length : Nat) : Int) := by
  refine Cw.enterS Tryd.func47 rfl rfl ?_
  refine Sm.seqW ?_
  conv => whnf
  refine Sm.live [0, 1, 2] ?_
  conv => whnf
  refine Sm.seq ?_
  refine Sm.block ?_
  refine Sm.loop ?_
  refine Lp.ofS (α := Nat) (fun i => [(0, sv l), (1, .int .i64 (i : Int)), (2, .func (.func g) #[] #[])])
    (fun i s' => i ≤ l.length ∧ s' = s ∧ i + ((l.drop i).takeWhile p).length = at_ + ((l.drop at_).takeWhile p).length) (fun i => l.length - i) ?_ at_ (subK_ok (by refine ⟨rfl, rfl, rfl, trivial⟩)) ⟨ha, rfl, rfl⟩
  rintro i s2 ⟨hi, rfl, hr⟩
  refine Sm.seq ?_
  refine Sm.seqW ?_
  conv => whnf
  by_cases hc : i < l.length
  · have q : decide ((i : Int) < (((bs ⟨l.toArray⟩).length : Nat) : Int)) = true := decide_eq_true (by show (i : Int) < (l.length : Int); omega)
    repeat (first | (refine Br.yes q ?_; conv => whnf) | (first | (refine Br.yes (by first | with_reducible rfl | with_reducible exact beq_self_eq_true _ | rfl) ?_; conv => whnf) | (refine Br.no (by first | with_reducible rfl | with_reducible exact bne_self_eq_false _ | rfl) ?_; conv => whnf)))
    refine Om.of _ (str_index Tryd.underlying9 (l := l) (i := i) hc .i64) ?_
    conv => whnf
    repeat (first | (refine Br.yes q ?_; conv => whnf) | (first | (refine Br.yes (by first | with_reducible rfl | with_reducible exact beq_self_eq_true _ | rfl) ?_; conv => whnf) | (refine Br.no (by first | with_reducible rfl | with_reducible exact bne_self_eq_false _ | rfl) ?_; conv => whnf)))
    refine (hg _ l[i]).mono ?_
    rintro _ s1 ⟨h1, rfl⟩
    obtain rfl := h1.symm
    conv => whnf
    repeat (first | (refine Br.yes q ?_; conv => whnf) | (first | (refine Br.yes (by first | with_reducible rfl | with_reducible exact beq_self_eq_true _ | rfl) ?_; conv => whnf) | (refine Br.no (by first | with_reducible rfl | with_reducible exact bne_self_eq_false _ | rfl) ?_; conv => whnf)))
    rw [List.drop_eq_getElem_cons hc] at hr
    cases hp : p l[i] with
    | true =>
      rw [List.takeWhile_cons_of_pos hp, List.length_cons] at hr
      refine Sm.live [0, 1, 2, 17] ?_
      conv => whnf
      refine Sm.ofW ?_
      conv => whnf
      repeat (first | (refine Br.yes (by first | with_reducible rfl | with_reducible exact beq_self_eq_true _ | rfl) ?_; conv => whnf) | (refine Br.no (by first | with_reducible rfl | with_reducible exact bne_self_eq_false _ | rfl) ?_; conv => whnf))
      refine Sm.block ?_
      refine Sm.ofW ?_
      conv => whnf
      exact ⟨i + 1, by (show l.length - (i + 1) < l.length - i); omega, subK_ok (by refine ⟨rfl, congrArg (fun x => some (Value.int .i64 x)) (show IntKind.i64.wrap ((i : Int) + 1) = ((i + 1 : Nat) : Int) by rw [wi64 (by omega) (by omega)]; omega), rfl, trivial⟩), by omega, rfl, by omega⟩
    | false =>
      rw [List.takeWhile_cons_of_neg (by rw [hp]; decide), List.length_nil] at hr
      refine Sm.live [0, 1, 2, 17] ?_
      conv => whnf
      refine Sm.ofW ?_
      conv => whnf
      repeat (first | (refine Br.yes (by first | with_reducible rfl | with_reducible exact beq_self_eq_true _ | rfl) ?_; conv => whnf) | (refine Br.no (by first | with_reducible rfl | with_reducible exact bne_self_eq_false _ | rfl) ?_; conv => whnf))
      refine Sm.seqW ?_
      conv => whnf
      refine Sm.ofW ?_
      conv => whnf
      exact ⟨rfl, congrArg (fun x => Value.int .i64 ((x : Nat) : Int)) (by omega)⟩
  · have q : decide ((i : Int) < (((bs ⟨l.toArray⟩).length : Nat) : Int)) = false := decide_eq_false (by show ¬ (i : Int) < (l.length : Int); omega)
    repeat (first | (refine Br.no q ?_; conv => whnf) | (first | (refine Br.yes (by first | with_reducible rfl | with_reducible exact beq_self_eq_true _ | rfl) ?_; conv => whnf) | (refine Br.no (by first | with_reducible rfl | with_reducible exact bne_self_eq_false _ | rfl) ?_; conv => whnf)))
    rw [List.drop_eq_nil_of_le (by omega), List.takeWhile_nil, List.length_nil] at hr
    refine Sm.live [0, 1, 2, 17] ?_
    conv => whnf
    refine Sm.ofW ?_
    conv => whnf
    repeat (first | (refine Br.yes (by first | with_reducible rfl | with_reducible exact beq_self_eq_true _ | rfl) ?_; conv => whnf) | (refine Br.no (by first | with_reducible rfl | with_reducible exact bne_self_eq_false _ | rfl) ?_; conv => whnf))
    refine Sm.seqW ?_
    conv => whnf
    refine Sm.ofW ?_
    conv => whnf
    exact ⟨rfl, congrArg (fun x => Value.int .i64 ((x : Nat) : Int)) (by omega)⟩
end Go.Ev
end

/- Tokens without a program. No condition. -/
noncomputable section
namespace Go.Ev
open Go.Proofs
variable [Lk]
set_option linter.unusedSectionVars false
set_option linter.unusedVariables false
set_option maxRecDepth 100000

structure Tok where
  kind : Int
  text : List UInt8
  at_ : Nat
def Tok.cells (t : Tok) : List Value := [.int .i64 t.kind, sv t.text, .int .i64 (t.at_ : Int)]
def Tok.val (t : Tok) : Value := .agg #[.int .i64 t.kind, sv t.text, .int .i64 (t.at_ : Int)]
def tkC (ts : List Tok) : List Value := (ts.map Tok.cells).flatten
theorem tkC_nil : tkC [] = [] := rfl
theorem tkC_cons (t : Tok) (ts : List Tok) : tkC (t :: ts) = t.cells ++ tkC ts := by simp [tkC]
theorem tkC_app (a b : List Tok) : tkC (a ++ b) = tkC a ++ tkC b := by simp [tkC]
theorem tkC_len : ∀ ts : List Tok, (tkC ts).length = ts.length * 3
  | [] => rfl
  | t :: ts => by
    rw [tkC_cons, List.length_append, tkC_len ts, List.length_cons]
    show 3 + ts.length * 3 = (ts.length + 1) * 3
    omega
theorem tkC_at : ∀ {ts : List Tok} {i : Nat} (h : i < ts.length), ((tkC ts).drop (i * 3)).take 3 = ts[i].cells
  | t :: ts, 0, _ => rfl
  | t :: ts, i + 1, h => by
    have := tkC_at (ts := ts) (i := i) (by simpa using h)
    rw [tkC_cons, show (i + 1) * 3 = 3 + i * 3 by omega, ← List.drop_drop]
    exact this
/-- What the reading of a text that is a number answers, and its error. -/
def readE (l : List UInt8) : Int := if readOk (bodyF l) = false then 2 else if 10 ^ 30 ≤ valD (wholeF (bodyF l) ++ restF (bodyF l)) then 3
  else if (hasP l [45] && decide (valD (wholeF (bodyF l) ++ restF (bodyF l)) = 0)) = true then 2 else 0
theorem readF_E (l : List UInt8) : ∃ d : Dc, readF l = .tuple #[d.val, .int .i64 (readE l)] := by
  unfold readF readE
  split
  · exact ⟨_, rfl⟩
  · split
    · exact ⟨_, rfl⟩
    · split
      · exact ⟨_, rfl⟩
      · exact ⟨_, rfl⟩
def numAt (c : UInt8) (r : List UInt8) : Bool := isD c || (decide (c = 45) && match r with
  | [] => false
  | d :: _ => isD d)
def isS (c : UInt8) : Bool := decide (c = 40) || (decide (c = 41) || (decide (c = 61) || (decide (c = 60) || decide (c = 62))))
/-- The token at a place. -/
def oneL (c : UInt8) (r : List UInt8) (i : Nat) : Option Tok :=
  if isL c = true then some ⟨1, c :: r.takeWhile isL, i⟩
  else if numAt c r = true then (if readE (c :: r.takeWhile isP) = 0 then some ⟨2, c :: r.takeWhile isP, i⟩ else none)
  else if isS c = true then some ⟨3, [c], i⟩ else none
theorem oneL_text {c : UInt8} {r : List UInt8} {i : Nat} {t : Tok} (h : oneL c r i = some t) : t.at_ = i ∧ t.text ≠ [] ∧ t.text.length ≤ r.length + 1 ∧ (t.kind = 1 ∨ t.kind = 2 ∨ t.kind = 3) ∧ t.text = (c :: r).take t.text.length := by
  unfold oneL at h
  have tw : ∀ p : UInt8 → Bool, (r.takeWhile p).length ≤ r.length ∧ r.takeWhile p = r.take (r.takeWhile p).length := fun p => by
    have := List.takeWhile_prefix (l := r) p
    exact ⟨this.length_le, (List.prefix_iff_eq_take.1 this)⟩
  split at h
  · injection h with h; subst h
    exact ⟨rfl, by simp, by have := (tw isL).1; simp; exact this, .inl rfl, by
      show c :: r.takeWhile isL = (c :: r).take ((r.takeWhile isL).length + 1)
      rw [List.take_succ_cons, ← (tw isL).2]⟩
  · split at h
    · split at h
      · injection h with h; subst h
        exact ⟨rfl, by simp, by have := (tw isP).1; simp; exact this, .inr (.inl rfl), by
          show c :: r.takeWhile isP = (c :: r).take ((r.takeWhile isP).length + 1)
          rw [List.take_succ_cons, ← (tw isP).2]⟩
      · cases h
    · split at h
      · injection h with h; subst h
        exact ⟨rfl, by simp, by simp, .inr (.inr rfl), rfl⟩
      · cases h
/-- The tokens behind a place, or the place where there is none. -/
def lexN : Nat → List UInt8 → Nat → List Tok ⊕ Nat
  | 0, _, i => .inl [⟨4, [], i⟩]
  | n + 1, s, i => match s.drop i with
    | [] => .inl [⟨4, [], i⟩]
    | c :: r => if c = 32 then lexN n s (i + 1) else match oneL c r i with
      | none => .inr i
      | some t => match lexN n s (i + t.text.length) with
        | .inl ts => .inl (t :: ts)
        | .inr k => .inr k
def lexF (s : List UInt8) (i : Nat) : List Tok ⊕ Nat := lexN (s.length - i) s i
theorem lexN_fuel : ∀ (n m : Nat) (s : List UInt8) (i : Nat), s.length - i ≤ n → s.length - i ≤ m → lexN n s i = lexN m s i
  | 0, 0, s, i, _, _ => rfl
  | 0, m + 1, s, i, h, _ => by
    have : s.drop i = [] := List.drop_eq_nil_of_le (by omega)
    simp only [lexN, this]
  | n + 1, 0, s, i, _, h => by
    have : s.drop i = [] := List.drop_eq_nil_of_le (by omega)
    simp only [lexN, this]
  | n + 1, m + 1, s, i, h1, h2 => by
    simp only [lexN]
    cases hd : s.drop i with
    | nil => rfl
    | cons c r =>
      have hlen : s.length - i = r.length + 1 := by have := congrArg List.length hd; simpa using this
      by_cases hc : c = 32
      · simp only [hc, if_true]
        exact lexN_fuel n m s (i + 1) (by omega) (by omega)
      · simp only [hc, if_false]
        cases ho : oneL c r i with
        | none => rfl
        | some t =>
          have := (oneL_text ho).2.1
          have : 0 < t.text.length := List.length_pos_iff.2 this
          simp only
          rw [lexN_fuel n m s (i + t.text.length) (by omega) (by omega)]
theorem lexF_end {s : List UInt8} {i : Nat} (h : s.length ≤ i) : lexF s i = .inl [⟨4, [], i⟩] := by
  unfold lexF
  rw [show s.length - i = 0 by omega]; rfl
theorem lexF_blank {s : List UInt8} {i : Nat} {c : UInt8} {r : List UInt8} (hd : s.drop i = c :: r) (hc : c = 32) : lexF s i = lexF s (i + 1) := by
  have hlen : s.length - i = r.length + 1 := by have := congrArg List.length hd; simpa using this
  unfold lexF
  rw [hlen, show s.length - (i + 1) = r.length by omega]
  simp only [lexN, hd, hc, if_true]
theorem lexF_tok {s : List UInt8} {i : Nat} {c : UInt8} {r : List UInt8} {t : Tok} (hd : s.drop i = c :: r) (hc : c ≠ 32) (ho : oneL c r i = some t) :
    lexF s i = match lexF s (i + t.text.length) with
      | .inl ts => .inl (t :: ts)
      | .inr k => .inr k := by
  have hlen : s.length - i = r.length + 1 := by have := congrArg List.length hd; simpa using this
  have := (oneL_text ho).2.1
  have : 0 < t.text.length := List.length_pos_iff.2 this
  unfold lexF
  rw [hlen, lexN_fuel (s.length - (i + t.text.length)) r.length s (i + t.text.length) (by omega) (by omega)]
  simp only [lexN, hd, hc, if_false, ho]
theorem lexF_bad {s : List UInt8} {i : Nat} {c : UInt8} {r : List UInt8} (hd : s.drop i = c :: r) (hc : c ≠ 32) (ho : oneL c r i = none) : lexF s i = .inr i := by
  have hlen : s.length - i = r.length + 1 := by have := congrArg List.length hd; simpa using this
  unfold lexF
  rw [hlen]
  simp only [lexN, hd, hc, if_false, ho]
/-- Behind tokens that are known. -/
def afterR (out : List Tok) : List Tok ⊕ Nat → List Tok ⊕ Nat
  | .inl ts => .inl (out ++ ts)
  | .inr k => .inr k
theorem afterR_tok (out : List Tok) (t : Tok) (x : List Tok ⊕ Nat) : afterR out (match x with
      | .inl ts => .inl (t :: ts)
      | .inr k => .inr k) = afterR (out ++ [t]) x := by
  cases x <;> simp [afterR]
def tokR (s : List UInt8) : List Tok ⊕ Nat := if 400 < s.length then .inr 0 else lexF s 0
end Go.Ev
end

/- lex.one walked. No condition. -/
noncomputable section
namespace Go.Ev
open Go.Proofs
variable [Lk]
set_option linter.unusedSectionVars false
set_option linter.unusedVariables false
set_option maxRecDepth 100000

theorem sindexByte_spec (s : St) (l : List UInt8) (c : UInt8) : Cw Tryd.prog 51 [sv l, .int .u8 ((c.toNat : Nat) : Int)] s fun r s' => s' = s ∧ r = .int .i64 (ixI (idxL c.toNat l 0)) := by
  refine Cw.enterS Tryd.func51 rfl rfl ?_
  refine Sm.seqW ?_
  conv => whnf
  refine Sm.seqW ?_
  conv => whnf
  refine (indexByte_spec _ l c).mono ?_
  rintro _ s1 ⟨h1, rfl⟩
  obtain rfl := h1.symm
  conv => whnf
  refine Sm.ofW ?_
  conv => whnf
  exact ⟨rfl, rfl⟩
theorem signs_ix (c : UInt8) : decide (ixI (idxL c.toNat [40, 41, 61, 60, 62] 0) ≥ 0) = isS c := by
  have : ∀ n, n < 256 → decide (ixI (idxL n [40, 41, 61, 60, 62] 0) ≥ 0) = isS (UInt8.ofNat n) := by decide +kernel
  have h := this c.toNat (UInt8.toNat_lt c)
  rwa [UInt8.ofNat_toNat] at h
theorem slice_at {l : List UInt8} {i n : Nat} {c : UInt8} {r w : List UInt8} (hd : l.drop i = c :: r) (hw : w = (c :: r).take n) (hn : n ≤ r.length + 1) :
    evSliceStr Tryd.prog 9 (sv l) (some (.int .i64 (i : Int))) (some (.int .i64 ((i + n : Nat) : Int))) = some (sv w) := by
  have hlen : l.length - i = r.length + 1 := by have := congrArg List.length hd; simpa using this
  have h := str_slice (P := Tryd.prog) Tryd.underlying9 (l := l) .i64 .i64 (some i) (some (i + n)) (by simp only [Option.getD_some]; omega) (by simp only [Option.getD_some]; omega)
  have e : (l.drop i).take (i + n - i) = w := by rw [hd, show i + n - i = n by omega, hw]
  simp only [bndV, Option.getD_some] at h
  rw [h, e]
theorem tw_take (p : UInt8 → Bool) (c : UInt8) (r : List UInt8) : c :: r.takeWhile p = (c :: r).take (1 + (r.takeWhile p).length) := by
  have := List.prefix_iff_eq_take.1 (List.takeWhile_prefix (l := r) p)
  rw [Nat.add_comm, List.take_succ_cons, ← this]
theorem tw_len (p : UInt8 → Bool) (r : List UInt8) : (r.takeWhile p).length ≤ r.length := (List.takeWhile_prefix (l := r) p).length_le
theorem xone_spec {z : St} (wf : WF z) {l : List UInt8} (hl : l.length ≤ 400) {i : Nat} {c : UInt8} {r : List UInt8} (hd : l.drop i = c :: r) :
    Cw Tryd.prog 35 [sv l, .int .i64 (i : Int)] z fun v s' => K0 z s' ∧ ∃ t : Tok, v = .tuple #[t.val, .bool (oneL c r i).isSome] ∧ ∀ t', oneL c r i = some t' → t' = t := by
  have hp : Hp (fun _ => False) z [] [] z := Hp.start _ wf _ (by simp)
  have hlen : l.length - i = r.length + 1 := by have := congrArg List.length hd; simpa using this
  have hi : i < l.length := by omega
  have hc : l[i] = c := by have := List.drop_eq_getElem_cons hi; rw [hd] at this; injection this with h1 h2; exact h1.symm
  have hr : l.drop (i + 1) = r := by have := List.drop_eq_getElem_cons hi; rw [hd] at this; injection this with h1 h2; exact h2.symm
  refine Cw.enterS Tryd.func35 rfl rfl ?_
  refine Sm.seqW ?_
  conv => whnf
  refine hp.alloc (cs := (Tok.mk 0 [] 0).cells) (e := 3) rfl rfl rfl rfl rfl ?_
  clear hp
  intro p4 s hp _
  conv => whnf
  refine Sm.live [0, 1, 4] ?_
  conv => whnf
  refine Sm.seqW ?_
  conv => whnf
  refine Om.of _ (str_index Tryd.underlying9 (l := l) (i := i) hi .i64) ?_
  conv => whnf
  rw [hc]
  refine Sm.live [0, 1, 4, 6] ?_
  conv => whnf
  refine Sm.seq ?_
  refine Sm.block ?_
  refine Sm.seqW ?_
  conv => whnf
  refine (xletter_spec _ c).mono ?_
  rintro _ s1 ⟨h1, rfl⟩
  obtain rfl := h1.symm
  conv => whnf
  refine Sm.live [0, 1, 4, 6, 13] ?_
  conv => whnf
  refine Sm.ofW ?_
  conv => whnf
  have ei : IntKind.i64.wrap ((i : Int) + 1) = ((i + 1 : Nat) : Int) := by rw [wi64 (by omega) (by omega)]; omega
  cases hL : isL c with
  | true =>
    have ho : oneL c r i = some ⟨1, c :: r.takeWhile isL, i⟩ := if_pos hL
    have htl := tw_len isL r
    rw [ho]
    repeat (first | (refine Br.yes (by first | with_reducible rfl | with_reducible exact beq_self_eq_true _ | rfl) ?_; conv => whnf) | (refine Br.no (by first | with_reducible rfl | with_reducible exact bne_self_eq_false _ | rfl) ?_; conv => whnf))
    refine (xrun_spec _ l (by omega) i (by omega) 46 isL (fun s c => xletter_spec s c)).mono ?_
    rintro _ s1 ⟨h1, rfl⟩
    obtain rfl := h1.symm
    conv => whnf
    rw [hd, List.takeWhile_cons_of_pos hL, List.length_cons, Nat.add_comm (r.takeWhile isL).length 1]
    refine Om.of _ (slice_at hd (tw_take isL c r) (by omega)) ?_
    conv => whnf
    refine hp.storeW (vs := (Tok.mk 1 (c :: r.takeWhile isL) i).cells) rfl (by repeat (first | exact Rm.here | apply Rm.there)) (by first | exact C2_same _ _ _ _ | exact C4_same _ _ _ _ _ _ _ _ | exact Dc_same _ _ | rfl) rfl rfl rfl ?_
    clear hp
    intro s hp _
    conv => whnf
    refine hp.loadA (l := (Tok.mk 1 (c :: r.takeWhile isL) i).cells) (by repeat (first | exact Has.here | apply Has.there | (apply Has.swap; repeat (first | exact HasR.here | apply HasR.there)))) rfl (by rfl) rfl rfl ?_
    conv => whnf
    exact ⟨hp.fr, _, rfl, fun t' h => by injection h with h; exact h.symm⟩
  | false =>
    repeat (first | (refine Br.yes (by first | with_reducible rfl | with_reducible exact beq_self_eq_true _ | rfl) ?_; conv => whnf) | (refine Br.no (by first | with_reducible rfl | with_reducible exact bne_self_eq_false _ | rfl) ?_; conv => whnf))
    refine (xdigit_spec _ c).mono ?_
    rintro _ s1 ⟨h1, rfl⟩
    obtain rfl := h1.symm
    conv => whnf
    cases hD : isD c with
    | true =>
      have hN : numAt c r = true := by unfold numAt; rw [hD]; rfl
      repeat (first | (refine Br.yes (by first | with_reducible rfl | with_reducible exact beq_self_eq_true _ | rfl) ?_; conv => whnf) | (refine Br.no (by first | with_reducible rfl | with_reducible exact bne_self_eq_false _ | rfl) ?_; conv => whnf))
      have ho : oneL c r i = if readE (c :: r.takeWhile isP) = 0 then some ⟨2, c :: r.takeWhile isP, i⟩ else none := by unfold oneL; rw [if_neg (by rw [hL]; decide), if_pos hN]
      have htl := tw_len isP r
      rw [ei]
      refine (xrun_spec _ l (by omega) (i + 1) (by omega) 49 isP (fun s c => xpart_spec s c)).mono ?_
      rintro _ s1 ⟨h1, rfl⟩
      obtain rfl := h1.symm
      conv => whnf
      rw [hr, Nat.add_assoc]
      refine Om.of _ (slice_at hd (tw_take isP c r) (by omega)) ?_
      conv => whnf
      refine hp.alloc (cs := (Tok.mk 0 [] 0).cells) (e := 3) rfl rfl rfl rfl rfl ?_
      clear hp
      intro p7 s hp _
      conv => whnf
      refine hp.storeW (vs := (Tok.mk 2 (c :: r.takeWhile isP) i).cells) rfl (by repeat (first | exact Rm.here | apply Rm.there)) (by first | exact C2_same _ _ _ _ | exact C4_same _ _ _ _ _ _ _ _ | exact Dc_same _ _ | rfl) rfl rfl rfl ?_
      clear hp
      intro s hp _
      conv => whnf
      refine hp.load (v := sv (c :: r.takeWhile isP)) (by repeat (first | exact Has.here | apply Has.there | (apply Has.swap; repeat (first | exact HasR.here | apply HasR.there)))) (by rfl) rfl rfl rfl ?_
      conv => whnf
      refine hp.call (read_spec hp.wf (c :: r.takeWhile isP) (by simp; omega)) ?_
      clear hp
      rintro _ s rfl hp _
      conv => whnf
      obtain ⟨dd, hde⟩ := readF_E (c :: r.takeWhile isP)
      rw [hde]
      conv => whnf
      refine hp.alloc (cs := Dc.zero.cells) (e := 4) rfl rfl rfl rfl rfl ?_
      clear hp
      intro p8 s hp _
      conv => whnf
      refine hp.storeW (vs := dd.cells) rfl (by repeat (first | exact Rm.here | apply Rm.there)) (by first | exact C2_same _ _ _ _ | exact C4_same _ _ _ _ _ _ _ _ | exact Dc_same _ _ | rfl) rfl rfl rfl ?_
      clear hp
      intro s hp _
      conv => whnf
      refine hp.loadA (l := (Tok.mk 2 (c :: r.takeWhile isP) i).cells) (by repeat (first | exact Has.here | apply Has.there | (apply Has.swap; repeat (first | exact HasR.here | apply HasR.there)))) rfl (by rfl) rfl rfl ?_
      conv => whnf
      refine hp.storeW (vs := (Tok.mk 2 (c :: r.takeWhile isP) i).cells) rfl (by repeat (first | exact Rm.here | apply Rm.there)) (by first | exact C2_same _ _ _ _ | exact C4_same _ _ _ _ _ _ _ _ | exact Dc_same _ _ | rfl) rfl rfl rfl ?_
      clear hp
      intro s hp _
      conv => whnf
      refine hp.loadA (l := (Tok.mk 2 (c :: r.takeWhile isP) i).cells) (by repeat (first | exact Has.here | apply Has.there | (apply Has.swap; repeat (first | exact HasR.here | apply HasR.there)))) rfl (by rfl) rfl rfl ?_
      conv => whnf
      refine ⟨hp.fr, ⟨2, c :: r.takeWhile isP, i⟩, ?_, fun t' h => ?_⟩
      · rw [ho]
        by_cases he : readE (c :: r.takeWhile isP) = 0
        · rw [if_pos he, he]; rfl
        · rw [if_neg he]
          show Value.tuple #[_, .bool (readE (c :: r.takeWhile isP) == 0)] = _
          rw [beq_eq_false_iff_ne.2 he]; rfl
      · rw [ho] at h
        split at h
        · injection h with h; exact h.symm
        · cases h
    | false =>
      repeat (first | (refine Br.yes (by first | with_reducible rfl | with_reducible exact beq_self_eq_true _ | rfl) ?_; conv => whnf) | (refine Br.no (by first | with_reducible rfl | with_reducible exact bne_self_eq_false _ | rfl) ?_; conv => whnf))
      by_cases h45 : c = 45
      · have q : (((c.toNat : Nat) : Int) == 45) = true := by rw [h45]; rfl
        repeat (first | (refine Br.yes q ?_; conv => whnf) | (first | (refine Br.yes (by first | with_reducible rfl | with_reducible exact beq_self_eq_true _ | rfl) ?_; conv => whnf) | (refine Br.no (by first | with_reducible rfl | with_reducible exact bne_self_eq_false _ | rfl) ?_; conv => whnf)))
        rw [ei]
        match r, hd, hlen, hr with
        | [], hd, hlen, hr =>
          have hN : numAt c [] = false := by unfold numAt; rw [hD]; simp
          have q2 : decide (((i + 1 : Nat) : Int) < (((bs ⟨l.toArray⟩).length : Nat) : Int)) = false := decide_eq_false (by show ¬ ((i + 1 : Nat) : Int) < (l.length : Int); simp at hlen; omega)
          repeat (first | (refine Br.yes q ?_; conv => whnf) | (refine Br.no q2 ?_; conv => whnf) | (first | (refine Br.yes (by first | with_reducible rfl | with_reducible exact beq_self_eq_true _ | rfl) ?_; conv => whnf) | (refine Br.no (by first | with_reducible rfl | with_reducible exact bne_self_eq_false _ | rfl) ?_; conv => whnf)))
          have ho : oneL c [] i = if isS c = true then some ⟨3, [c], i⟩ else none := by unfold oneL; rw [if_neg (by rw [hL]; decide), if_neg (by rw [hN]; decide)]
          refine Sm.seqW ?_
          conv => whnf
          refine ⟨[0, 0, 0, 4, 15, 0, 63, 0, 128, 384, 511, 2047], by decide +kernel, by decide +kernel, ?_⟩
          conv => whnf
          rw [ei]
          refine Om.of _ (slice_at hd (w := [c]) (n := 1) (by simp) (by simp)) ?_
          conv => whnf
          refine (sindexByte_spec _ [40, 41, 61, 60, 62] c).mono ?_
          rintro _ s1 ⟨h1, rfl⟩
          obtain rfl := h1.symm
          conv => whnf
          refine hp.dkS ?_
          conv => whnf
          refine hp.rst.storeW (vs := (Tok.mk 3 [c] i).cells) rfl (by repeat (first | exact Rm.here | apply Rm.there)) (by first | exact C2_same _ _ _ _ | exact C4_same _ _ _ _ _ _ _ _ | exact Dc_same _ _ | rfl) rfl rfl rfl ?_
          intro s1 h1 l1
          conv => whnf
          refine hp.dkW h1 l1 ?_
          clear hp h1 l1
          intro s hp
          conv => whnf
          refine Sm.live [4, 5] ?_
          conv => whnf
          refine Sm.ofW ?_
          conv => whnf
          refine hp.loadA (l := (Tok.mk 3 [c] i).cells) (by repeat (first | exact Has.here | apply Has.there | (apply Has.swap; repeat (first | exact HasR.here | apply HasR.there)))) rfl (by rfl) rfl rfl ?_
          conv => whnf
          refine ⟨hp.fr, ⟨3, [c], i⟩, ?_, fun t' h => ?_⟩
          · rw [ho]
            show Value.tuple #[_, .bool (decide (ixI (idxL c.toNat [40, 41, 61, 60, 62] 0) ≥ 0))] = _
            rw [signs_ix]
            cases isS c <;> rfl
          · rw [ho] at h
            split at h
            · injection h with h; exact h.symm
            · cases h
        | d :: r', hd, hlen, hr =>
          have hi1 : i + 1 < l.length := by simp at hlen; omega
          have hd1 : l[i + 1] = d := by have := List.drop_eq_getElem_cons hi1; rw [hr] at this; injection this with h1 h2; exact h1.symm
          have q2 : decide (((i + 1 : Nat) : Int) < (((bs ⟨l.toArray⟩).length : Nat) : Int)) = true := decide_eq_true (by show ((i + 1 : Nat) : Int) < (l.length : Int); omega)
          repeat (first | (refine Br.yes q ?_; conv => whnf) | (refine Br.yes q2 ?_; conv => whnf) | (first | (refine Br.yes (by first | with_reducible rfl | with_reducible exact beq_self_eq_true _ | rfl) ?_; conv => whnf) | (refine Br.no (by first | with_reducible rfl | with_reducible exact bne_self_eq_false _ | rfl) ?_; conv => whnf)))
          rw [ei]
          refine Om.of _ (str_index Tryd.underlying9 (l := l) (i := i + 1) hi1 .i64) ?_
          conv => whnf
          rw [hd1]
          repeat (first | (refine Br.yes q ?_; conv => whnf) | (refine Br.yes q2 ?_; conv => whnf) | (first | (refine Br.yes (by first | with_reducible rfl | with_reducible exact beq_self_eq_true _ | rfl) ?_; conv => whnf) | (refine Br.no (by first | with_reducible rfl | with_reducible exact bne_self_eq_false _ | rfl) ?_; conv => whnf)))
          refine (xdigit_spec _ d).mono ?_
          rintro _ s1 ⟨h1, rfl⟩
          obtain rfl := h1.symm
          conv => whnf
          cases hdd : isD d with
          | true =>
            have hN : numAt c (d :: r') = true := by show (isD c || (decide (c = 45) && isD d)) = true; rw [hD, hdd, h45]; rfl
            repeat (first | (refine Br.yes q ?_; conv => whnf) | (refine Br.yes q2 ?_; conv => whnf) | (first | (refine Br.yes (by first | with_reducible rfl | with_reducible exact beq_self_eq_true _ | rfl) ?_; conv => whnf) | (refine Br.no (by first | with_reducible rfl | with_reducible exact bne_self_eq_false _ | rfl) ?_; conv => whnf)))
            have ho : oneL c (d :: r') i = if readE (c :: (d :: r').takeWhile isP) = 0 then some ⟨2, c :: (d :: r').takeWhile isP, i⟩ else none := by unfold oneL; rw [if_neg (by rw [hL]; decide), if_pos hN]
            have htl := tw_len isP (d :: r')
            rw [ei]
            refine (xrun_spec _ l (by omega) (i + 1) (by omega) 49 isP (fun s c => xpart_spec s c)).mono ?_
            rintro _ s1 ⟨h1, rfl⟩
            obtain rfl := h1.symm
            conv => whnf
            rw [hr, Nat.add_assoc]
            refine Om.of _ (slice_at hd (tw_take isP c (d :: r')) (by omega)) ?_
            conv => whnf
            refine hp.alloc (cs := (Tok.mk 0 [] 0).cells) (e := 3) rfl rfl rfl rfl rfl ?_
            clear hp
            intro p7 s hp _
            conv => whnf
            refine hp.storeW (vs := (Tok.mk 2 (c :: (d :: r').takeWhile isP) i).cells) rfl (by repeat (first | exact Rm.here | apply Rm.there)) (by first | exact C2_same _ _ _ _ | exact C4_same _ _ _ _ _ _ _ _ | exact Dc_same _ _ | rfl) rfl rfl rfl ?_
            clear hp
            intro s hp _
            conv => whnf
            refine hp.load (v := sv (c :: (d :: r').takeWhile isP)) (by repeat (first | exact Has.here | apply Has.there | (apply Has.swap; repeat (first | exact HasR.here | apply HasR.there)))) (by rfl) rfl rfl rfl ?_
            conv => whnf
            refine hp.call (read_spec hp.wf (c :: (d :: r').takeWhile isP) (by simp; omega)) ?_
            clear hp
            rintro _ s rfl hp _
            conv => whnf
            obtain ⟨dd, hde⟩ := readF_E (c :: (d :: r').takeWhile isP)
            rw [hde]
            conv => whnf
            refine hp.alloc (cs := Dc.zero.cells) (e := 4) rfl rfl rfl rfl rfl ?_
            clear hp
            intro p8 s hp _
            conv => whnf
            refine hp.storeW (vs := dd.cells) rfl (by repeat (first | exact Rm.here | apply Rm.there)) (by first | exact C2_same _ _ _ _ | exact C4_same _ _ _ _ _ _ _ _ | exact Dc_same _ _ | rfl) rfl rfl rfl ?_
            clear hp
            intro s hp _
            conv => whnf
            refine hp.loadA (l := (Tok.mk 2 (c :: (d :: r').takeWhile isP) i).cells) (by repeat (first | exact Has.here | apply Has.there | (apply Has.swap; repeat (first | exact HasR.here | apply HasR.there)))) rfl (by rfl) rfl rfl ?_
            conv => whnf
            refine hp.storeW (vs := (Tok.mk 2 (c :: (d :: r').takeWhile isP) i).cells) rfl (by repeat (first | exact Rm.here | apply Rm.there)) (by first | exact C2_same _ _ _ _ | exact C4_same _ _ _ _ _ _ _ _ | exact Dc_same _ _ | rfl) rfl rfl rfl ?_
            clear hp
            intro s hp _
            conv => whnf
            refine hp.loadA (l := (Tok.mk 2 (c :: (d :: r').takeWhile isP) i).cells) (by repeat (first | exact Has.here | apply Has.there | (apply Has.swap; repeat (first | exact HasR.here | apply HasR.there)))) rfl (by rfl) rfl rfl ?_
            conv => whnf
            refine ⟨hp.fr, ⟨2, c :: (d :: r').takeWhile isP, i⟩, ?_, fun t' h => ?_⟩
            · rw [ho]
              by_cases he : readE (c :: (d :: r').takeWhile isP) = 0
              · rw [if_pos he, he]; rfl
              · rw [if_neg he]
                show Value.tuple #[_, .bool (readE (c :: (d :: r').takeWhile isP) == 0)] = _
                rw [beq_eq_false_iff_ne.2 he]; rfl
            · rw [ho] at h
              split at h
              · injection h with h; exact h.symm
              · cases h
          | false =>
            have hN : numAt c (d :: r') = false := by show (isD c || (decide (c = 45) && isD d)) = false; rw [hD, hdd]; simp
            repeat (first | (refine Br.yes q ?_; conv => whnf) | (refine Br.yes q2 ?_; conv => whnf) | (first | (refine Br.yes (by first | with_reducible rfl | with_reducible exact beq_self_eq_true _ | rfl) ?_; conv => whnf) | (refine Br.no (by first | with_reducible rfl | with_reducible exact bne_self_eq_false _ | rfl) ?_; conv => whnf)))
            have ho : oneL c (d :: r') i = if isS c = true then some ⟨3, [c], i⟩ else none := by unfold oneL; rw [if_neg (by rw [hL]; decide), if_neg (by rw [hN]; decide)]
            refine Sm.seqW ?_
            conv => whnf
            refine ⟨[0, 0, 0, 4, 15, 0, 63, 0, 128, 384, 511, 2047], by decide +kernel, by decide +kernel, ?_⟩
            conv => whnf
            rw [ei]
            refine Om.of _ (slice_at hd (w := [c]) (n := 1) (by simp) (by omega)) ?_
            conv => whnf
            refine (sindexByte_spec _ [40, 41, 61, 60, 62] c).mono ?_
            rintro _ s1 ⟨h1, rfl⟩
            obtain rfl := h1.symm
            conv => whnf
            refine hp.dkS ?_
            conv => whnf
            refine hp.rst.storeW (vs := (Tok.mk 3 [c] i).cells) rfl (by repeat (first | exact Rm.here | apply Rm.there)) (by first | exact C2_same _ _ _ _ | exact C4_same _ _ _ _ _ _ _ _ | exact Dc_same _ _ | rfl) rfl rfl rfl ?_
            intro s1 h1 l1
            conv => whnf
            refine hp.dkW h1 l1 ?_
            clear hp h1 l1
            intro s hp
            conv => whnf
            refine Sm.live [4, 5] ?_
            conv => whnf
            refine Sm.ofW ?_
            conv => whnf
            refine hp.loadA (l := (Tok.mk 3 [c] i).cells) (by repeat (first | exact Has.here | apply Has.there | (apply Has.swap; repeat (first | exact HasR.here | apply HasR.there)))) rfl (by rfl) rfl rfl ?_
            conv => whnf
            refine ⟨hp.fr, ⟨3, [c], i⟩, ?_, fun t' h => ?_⟩
            · rw [ho]
              show Value.tuple #[_, .bool (decide (ixI (idxL c.toNat [40, 41, 61, 60, 62] 0) ≥ 0))] = _
              rw [signs_ix]
              cases isS c <;> rfl
            · rw [ho] at h
              split at h
              · injection h with h; exact h.symm
              · cases h
      · have q : (((c.toNat : Nat) : Int) == 45) = false := (u8_beq c 45).trans (decide_eq_false h45)
        have hN : numAt c r = false := by unfold numAt; rw [hD, decide_eq_false h45]; rfl
        repeat (first | (refine Br.no q ?_; conv => whnf) | (first | (refine Br.yes (by first | with_reducible rfl | with_reducible exact beq_self_eq_true _ | rfl) ?_; conv => whnf) | (refine Br.no (by first | with_reducible rfl | with_reducible exact bne_self_eq_false _ | rfl) ?_; conv => whnf)))
        have ho : oneL c r i = if isS c = true then some ⟨3, [c], i⟩ else none := by unfold oneL; rw [if_neg (by rw [hL]; decide), if_neg (by rw [hN]; decide)]
        refine Sm.seqW ?_
        conv => whnf
        refine ⟨[0, 0, 0, 4, 15, 0, 63, 0, 128, 384, 511, 2047], by decide +kernel, by decide +kernel, ?_⟩
        conv => whnf
        rw [ei]
        refine Om.of _ (slice_at hd (w := [c]) (n := 1) (by simp) (by omega)) ?_
        conv => whnf
        refine (sindexByte_spec _ [40, 41, 61, 60, 62] c).mono ?_
        rintro _ s1 ⟨h1, rfl⟩
        obtain rfl := h1.symm
        conv => whnf
        refine hp.dkS ?_
        conv => whnf
        refine hp.rst.storeW (vs := (Tok.mk 3 [c] i).cells) rfl (by repeat (first | exact Rm.here | apply Rm.there)) (by first | exact C2_same _ _ _ _ | exact C4_same _ _ _ _ _ _ _ _ | exact Dc_same _ _ | rfl) rfl rfl rfl ?_
        intro s1 h1 l1
        conv => whnf
        refine hp.dkW h1 l1 ?_
        clear hp h1 l1
        intro s hp
        conv => whnf
        refine Sm.live [4, 5] ?_
        conv => whnf
        refine Sm.ofW ?_
        conv => whnf
        refine hp.loadA (l := (Tok.mk 3 [c] i).cells) (by repeat (first | exact Has.here | apply Has.there | (apply Has.swap; repeat (first | exact HasR.here | apply HasR.there)))) rfl (by rfl) rfl rfl ?_
        conv => whnf
        refine ⟨hp.fr, ⟨3, [c], i⟩, ?_, fun t' h => ?_⟩
        · rw [ho]
          show Value.tuple #[_, .bool (decide (ixI (idxL c.toNat [40, 41, 61, 60, 62] 0) ≥ 0))] = _
          rw [signs_ix]
          cases isS c <;> rfl
        · rw [ho] at h
          split at h
          · injection h with h; exact h.symm
          · cases h
end Go.Ev
end

/- lex.Tokens walked. No condition. -/
noncomputable section
namespace Go.Ev
open Go.Proofs
variable [Lk]
set_option linter.unusedSectionVars false
set_option linter.unusedVariables false
set_option maxRecDepth 100000

theorem TK : SlT Tryd.prog 22 31 3 32 (Tok.mk 0 [] 0).val := ⟨Tryd.underlying22, ⟨_, rfl, rfl, rfl, rfl⟩, rfl, rfl, by decide, by decide⟩
theorem tkC_snoc (a : List Tok) (t : Tok) : tkC (a ++ [t]) = tkC a ++ t.cells := by rw [tkC_app, tkC_cons, tkC_nil, List.append_nil]
/-- What is answered of tokens. -/
def tokAns (z s' : St) (v : Value) : List Tok ⊕ Nat → Prop
  | .inl ts => ∃ w, v = .tuple #[w, .int .i64 0, .int .i64 0] ∧ OwnN z.next s' w 3 ts.length (tkC ts)
  | .inr k => v = .tuple #[.slice none 0 0, .int .i64 (k : Int), .int .i64 2]
theorem xtokens_spec {z : St} (wf : WF z) (l : List UInt8) : Cw Tryd.prog 12 [sv l] z fun v s' => K0 z s' ∧ tokAns z s' v (tokR l) := by
  have hp : Hp (fun _ => False) z [] [] z := Hp.start _ wf _ (by simp)
  refine Cw.enterS Tryd.func12 rfl rfl ?_
  refine Sm.seqW ?_
  conv => whnf
  refine Sm.live [0] ?_
  conv => whnf
  refine Sm.seq ?_
  refine Sm.seqW ?_
  conv => whnf
  refine Sm.live [0, 11] ?_
  conv => whnf
  refine Sm.ofW ?_
  conv => whnf
  unfold tokR
  by_cases h4 : 400 < l.length
  · have q : decide ((((bs ⟨l.toArray⟩).length : Nat) : Int) > 400) = true := decide_eq_true (by show ((l.length : Nat) : Int) > 400; omega)
    rw [if_pos h4]
    repeat (first | (refine Br.yes q ?_; conv => whnf) | (first | (refine Br.yes (by first | with_reducible rfl | with_reducible exact beq_self_eq_true _ | rfl) ?_; conv => whnf) | (refine Br.no (by first | with_reducible rfl | with_reducible exact bne_self_eq_false _ | rfl) ?_; conv => whnf)))
    exact ⟨hp.fr, rfl⟩
  have q : decide ((((bs ⟨l.toArray⟩).length : Nat) : Int) > 400) = false := decide_eq_false (by show ¬ ((l.length : Nat) : Int) > 400; omega)
  rw [if_neg h4]
  repeat (first | (refine Br.no q ?_; conv => whnf) | (first | (refine Br.yes (by first | with_reducible rfl | with_reducible exact beq_self_eq_true _ | rfl) ?_; conv => whnf) | (refine Br.no (by first | with_reducible rfl | with_reducible exact bne_self_eq_false _ | rfl) ?_; conv => whnf)))
  refine Sm.seqW ?_
  conv => whnf
  refine Sm.live [0, 5] ?_
  conv => whnf
  refine Sm.seqW ?_
  conv => whnf
  refine Sm.live [0, 5, 6] ?_
  conv => whnf
  refine Sm.seq ?_
  refine Sm.block ?_
  refine Sm.loop ?_
  refine Lp.ofS (α := Nat × List Tok × Option Nat × Value) (fun x => [(0, sv l), (5, x.2.2.2), (6, .int .i64 (x.1 : Int))])
    (fun x s' => x.1 ≤ l.length ∧ x.2.1.length ≤ x.1 ∧ afterR x.2.1 (lexF l x.1) = lexF l 0 ∧ Hp (fun _ => False) z [] [onA x.2.2.1 x.2.2.2 3 x.2.1.length (tkC x.2.1)] s') (fun x => l.length - x.1) ?_ (0, [], none, .slice none 0 0) (subK_ok (by refine ⟨rfl, rfl, rfl, trivial⟩))
    ⟨Nat.zero_le _, Nat.le_refl _, by cases lexF l 0 <;> rfl, (hp.nilA 3).pik (by repeat (first | exact Pik.nil | exact Pik.refl _ | exact Rm.here | apply Rm.there | apply Pik.cons | apply Pik.skip))⟩
  clear hp
  rintro ⟨i, out, κ, v⟩ s ⟨hi, ho, hr, hp⟩
  simp only at hi ho hr hp
  refine Sm.seq ?_
  refine Sm.seqW ?_
  conv => whnf
  refine Sm.live [0, 5, 6, 15] ?_
  conv => whnf
  refine Sm.ofW ?_
  conv => whnf
  refine Br.mk (fun hc => ?_) (fun hc => ?_)
  · have hcI : i < l.length := by have h : (i : Int) < (l.length : Int) := of_decide_eq_true hc; omega
    obtain ⟨c, r, hd⟩ : ∃ c r, l.drop i = c :: r := ⟨_, _, List.drop_eq_getElem_cons hcI⟩
    have hci : l[i] = c := by have := List.drop_eq_getElem_cons hcI; rw [hd] at this; injection this with h1 h2; exact h1.symm
    have hrl : l.length - i = r.length + 1 := by have := congrArg List.length hd; simpa using this
    conv => whnf
    refine Sm.block ?_
    refine Sm.seq ?_
    refine Sm.seqW ?_
    conv => whnf
    refine Om.of _ (str_index Tryd.underlying9 (l := l) (i := i) hcI .i64) ?_
    conv => whnf
    rw [hci]
    refine Sm.live [0, 5, 6, 19] ?_
    conv => whnf
    refine Sm.ofW ?_
    conv => whnf
    by_cases h32 : c = 32
    · refine Br.yes ((u8_beq c 32).trans (decide_eq_true h32)) ?_
      conv => whnf
      rw [lexF_blank hd h32] at hr
      exact ⟨(i + 1, out, κ, v), by (show l.length - (i + 1) < l.length - i); omega, subK_ok (by refine ⟨rfl, rfl, congrArg (fun x => some (Value.int .i64 x)) (show IntKind.i64.wrap ((i : Int) + 1) = ((i + 1 : Nat) : Int) by rw [wi64 (by omega) (by omega)]; omega), trivial⟩), by omega, by (show out.length ≤ i + 1); omega, hr, hp⟩
    · refine Br.no ((u8_beq c 32).trans (decide_eq_false h32)) ?_
      conv => whnf
      refine Sm.seqW ?_
      conv => whnf
      refine hp.call (xone_spec hp.wf (by omega) hd) ?_
      clear hp
      rintro _ s ⟨t, rfl, ht⟩ hp _
      conv => whnf
      refine hp.alloc (cs := (Tok.mk 0 [] 0).cells) (e := 3) rfl rfl rfl rfl rfl ?_
      clear hp
      intro p7 s hp _
      conv => whnf
      refine hp.storeW (vs := t.cells) rfl (by repeat (first | exact Rm.here | apply Rm.there)) (by first | exact C2_same _ _ _ _ | exact C4_same _ _ _ _ _ _ _ _ | exact Dc_same _ _ | rfl) rfl rfl rfl ?_
      clear hp
      intro s hp _
      conv => whnf
      refine Sm.live [0, 5, 6, 7, 8] ?_
      conv => whnf
      refine Sm.seq ?_
      refine Sm.seqW ?_
      conv => whnf
      refine Sm.live [0, 5, 6, 7, 29] ?_
      conv => whnf
      refine Sm.ofW ?_
      conv => whnf
      cases hone : oneL c r i with
      | none =>
        repeat (first | (refine Br.yes (by first | with_reducible rfl | with_reducible exact beq_self_eq_true _ | rfl) ?_; conv => whnf) | (refine Br.no (by first | with_reducible rfl | with_reducible exact bne_self_eq_false _ | rfl) ?_; conv => whnf))
        rw [lexF_bad hd h32 hone] at hr
        refine ⟨hp.fr, ?_⟩
        rw [← hr]
        rfl
      | some t' =>
        obtain rfl := ht t' hone
        obtain ⟨t1, t2, t3, t4, t5⟩ := oneL_text hone
        have tl : 0 < t'.text.length := List.length_pos_iff.2 t2
        rw [lexF_tok hd h32 hone, afterR_tok] at hr
        repeat (first | (refine Br.yes (by first | with_reducible rfl | with_reducible exact beq_self_eq_true _ | rfl) ?_; conv => whnf) | (refine Br.no (by first | with_reducible rfl | with_reducible exact bne_self_eq_false _ | rfl) ?_; conv => whnf))
        refine Sm.seqW ?_
        conv => whnf
        refine hp.loadA (l := t'.cells) (by repeat (first | exact Has.here | apply Has.there | (apply Has.swap; repeat (first | exact HasR.here | apply HasR.there)))) rfl (by rfl) rfl rfl ?_
        conv => whnf
        refine hp.lit (cs := t'.cells) (e := 3) (by rfl) ?_
        clear hp
        intro b4 s4 hp _
        conv => whnf
        have x4 := hp.blkSl (n := 1) (C := t'.cells) (k := b4) (b := b4) (e := 3) (by repeat (first | exact Has.here | apply Has.there | (apply Has.swap; repeat (first | exact HasR.here | apply HasR.there)))) rfl
        refine hp.app TK Tryd.underlying22 rfl (κ := κ) (v := v) (by repeat (first | exact Rm.here | apply Rm.there)) (elems_sl x4) rfl rfl (by omega) ?_
        clear hp x4
        intro v5 κ5 s hp
        rw [← tkC_snoc, show out.length + 1 = (out ++ [t']).length by simp] at hp
        conv => whnf
        refine Sm.live [0, 5, 6, 7] ?_
        conv => whnf
        refine Sm.ofW ?_
        conv => whnf
        refine hp.load (v := sv t'.text) (by repeat (first | exact Has.here | apply Has.there | (apply Has.swap; repeat (first | exact HasR.here | apply HasR.there)))) (by rfl) rfl rfl rfl ?_
        conv => whnf
        exact ⟨(i + t'.text.length, out ++ [t'], κ5, v5), by (show l.length - (i + t'.text.length) < l.length - i); omega, subK_ok (by refine ⟨rfl, rfl, congrArg (fun x => some (Value.int .i64 x)) (show IntKind.i64.wrap ((i : Int) + (t'.text.length : Int)) = ((i + t'.text.length : Nat) : Int) by rw [wi64 (by omega) (by omega)]; omega), trivial⟩), by (show i + t'.text.length ≤ l.length); omega, by (show (out ++ [t']).length ≤ i + t'.text.length); simp; omega, hr, hp.pik (by repeat (first | exact Pik.nil | exact Pik.refl _ | exact Rm.here | apply Rm.there | apply Pik.cons | apply Pik.skip))⟩
  · have hcI : l.length ≤ i := by have h : ¬ (i : Int) < (l.length : Int) := of_decide_eq_false hc; omega
    rw [lexF_end hcI] at hr
    conv => whnf
    refine Sm.seqW ?_
    conv => whnf
    refine hp.lit (cs := (Tok.mk 4 [] i).cells) (e := 3) (by rfl) ?_
    clear hp
    intro b4 s4 hp _
    conv => whnf
    have x4 := hp.blkSl (n := 1) (C := (Tok.mk 4 [] i).cells) (k := b4) (b := b4) (e := 3) (by repeat (first | exact Has.here | apply Has.there | (apply Has.swap; repeat (first | exact HasR.here | apply HasR.there)))) rfl
    refine hp.app TK Tryd.underlying22 rfl (κ := κ) (v := v) (by repeat (first | exact Rm.here | apply Rm.there)) (elems_sl x4) rfl rfl (by omega) ?_
    clear hp x4
    intro v5 κ5 s hp
    rw [← tkC_snoc, show out.length + 1 = (out ++ [Tok.mk 4 [] i]).length by simp] at hp
    conv => whnf
    refine Sm.live [2, 3, 4] ?_
    conv => whnf
    refine Sm.ofW ?_
    conv => whnf
    refine ⟨hp.fr, ?_⟩
    rw [← hr]
    exact ⟨v5, rfl, hp.out (by repeat (first | exact Rm.here | apply Rm.there))⟩
end Go.Ev
end

/- The document's Tokens walked. No condition. -/
noncomputable section
namespace Go.Ev
open Go.Proofs
variable [Lk]
set_option linter.unusedSectionVars false
set_option linter.unusedVariables false
set_option maxRecDepth 100000

theorem TK2 : SlT Tryd.prog 34 37 3 32 (Tok.mk 0 [] 0).val := ⟨Tryd.underlying34, ⟨_, rfl, rfl, rfl, rfl⟩, rfl, rfl, by decide, by decide⟩
theorem isL_q (c : UInt8) : (decide (((c.toNat : Nat) : Int) ≥ 97) = true ∧ decide (((c.toNat : Nat) : Int) ≤ 122) = isL c) ∨ (decide (((c.toNat : Nat) : Int) ≥ 97) = false ∧ isL c = false) := by
  by_cases h : 97 ≤ c.toNat
  · exact .inl ⟨decide_eq_true (by omega), decide_eq_decide.2 (by omega)⟩
  · exact .inr ⟨decide_eq_false (by omega), decide_eq_false (by omega)⟩
theorem ytokens_spec {z : St} (wf : WF z) (l : List UInt8) : Cw Tryd.prog 15 [sv l] z fun v s' => K0 z s' ∧ tokAns z s' v (tokR l) := by
  have hp : Hp (fun _ => False) z [] [] z := Hp.start _ wf _ (by simp)
  refine Cw.enterS Tryd.func15 rfl rfl ?_
  refine Sm.seqW ?_
  conv => whnf
  refine Sm.live [0] ?_
  conv => whnf
  refine Sm.seq ?_
  refine Sm.seqW ?_
  conv => whnf
  refine Sm.live [0, 14] ?_
  conv => whnf
  refine Sm.ofW ?_
  conv => whnf
  unfold tokR
  by_cases h4 : 400 < l.length
  · have q : decide ((((bs ⟨l.toArray⟩).length : Nat) : Int) > 400) = true := decide_eq_true (by show ((l.length : Nat) : Int) > 400; omega)
    rw [if_pos h4]
    repeat (first | (refine Br.yes q ?_; conv => whnf) | (first | (refine Br.yes (by first | with_reducible rfl | with_reducible exact beq_self_eq_true _ | rfl) ?_; conv => whnf) | (refine Br.no (by first | with_reducible rfl | with_reducible exact bne_self_eq_false _ | rfl) ?_; conv => whnf)))
    exact ⟨hp.fr, rfl⟩
  have q : decide ((((bs ⟨l.toArray⟩).length : Nat) : Int) > 400) = false := decide_eq_false (by show ¬ ((l.length : Nat) : Int) > 400; omega)
  rw [if_neg h4]
  repeat (first | (refine Br.no q ?_; conv => whnf) | (first | (refine Br.yes (by first | with_reducible rfl | with_reducible exact beq_self_eq_true _ | rfl) ?_; conv => whnf) | (refine Br.no (by first | with_reducible rfl | with_reducible exact bne_self_eq_false _ | rfl) ?_; conv => whnf)))
  refine Sm.seqW ?_
  conv => whnf
  refine Sm.live [0, 5] ?_
  conv => whnf
  refine Sm.seqW ?_
  conv => whnf
  refine Sm.live [0, 5, 6] ?_
  conv => whnf
  refine Sm.seq ?_
  refine Sm.block ?_
  refine Sm.loop ?_
  refine Lp.ofS (α := Nat × List Tok × Option Nat × Value) (fun x => [(0, sv l), (5, x.2.2.2), (6, .int .i64 (x.1 : Int))])
    (fun x s' => x.1 ≤ l.length ∧ x.2.1.length ≤ x.1 ∧ afterR x.2.1 (lexF l x.1) = lexF l 0 ∧ Hp (fun _ => False) z [] [onA x.2.2.1 x.2.2.2 3 x.2.1.length (tkC x.2.1)] s') (fun x => l.length - x.1) ?_ (0, [], none, .slice none 0 0) (subK_ok (by refine ⟨rfl, rfl, rfl, trivial⟩))
    ⟨Nat.zero_le _, Nat.le_refl _, by cases lexF l 0 <;> rfl, (hp.nilA 3).pik (by repeat (first | exact Pik.nil | exact Pik.refl _ | exact Rm.here | apply Rm.there | apply Pik.cons | apply Pik.skip))⟩
  clear hp
  rintro ⟨i, out, κ, v⟩ s ⟨hi, ho, hr, hp⟩
  simp only at hi ho hr hp
  refine Sm.seq ?_
  refine Sm.seqW ?_
  conv => whnf
  refine Sm.live [0, 5, 6, 18] ?_
  conv => whnf
  refine Sm.ofW ?_
  conv => whnf
  refine Br.mk (fun hc => ?_) (fun hc => ?_)
  · have hcI : i < l.length := by have h : (i : Int) < (l.length : Int) := of_decide_eq_true hc; omega
    obtain ⟨c, r, hd⟩ : ∃ c r, l.drop i = c :: r := ⟨_, _, List.drop_eq_getElem_cons hcI⟩
    have hci : l[i] = c := by have := List.drop_eq_getElem_cons hcI; rw [hd] at this; injection this with h1 h2; exact h1.symm
    have hri : l.drop (i + 1) = r := by have := List.drop_eq_getElem_cons hcI; rw [hd] at this; injection this with h1 h2; exact h2.symm
    have hrl : l.length - i = r.length + 1 := by have := congrArg List.length hd; simpa using this
    have ei : IntKind.i64.wrap ((i : Int) + 1) = ((i + 1 : Nat) : Int) := by rw [wi64 (by omega) (by omega)]; omega
    conv => whnf
    refine Sm.block ?_
    refine Sm.seqW ?_
    conv => whnf
    refine Om.of _ (str_index Tryd.underlying9 (l := l) (i := i) hcI .i64) ?_
    conv => whnf
    rw [hci]
    refine Sm.live [0, 5, 6, 7] ?_
    conv => whnf
    refine Sm.seqW ?_
    conv => whnf
    rw [ei]
    refine Sm.live [0, 5, 6, 7, 8] ?_
    conv => whnf
    refine Sm.seqW ?_
    conv => whnf
    refine hp.alloc (cs := (Tok.mk 0 [] 0).cells) (e := 3) rfl rfl rfl rfl rfl ?_
    clear hp
    intro p9 s hp _
    conv => whnf
    refine hp.storeW (vs := (Tok.mk 0 [] i).cells) rfl (by repeat (first | exact Rm.here | apply Rm.there)) (by first | exact C2_same _ _ _ _ | exact C4_same _ _ _ _ _ _ _ _ | exact Dc_same _ _ | rfl) rfl rfl rfl ?_
    clear hp
    intro s hp _
    conv => whnf
    refine Sm.live [0, 5, 6, 7, 8, 9] ?_
    conv => whnf
    refine Sm.seq ?_
    refine Sm.block ?_
    refine Sm.seqW ?_
    conv => whnf
    refine Sm.live [0, 5, 6, 7, 8, 9, 27] ?_
    conv => whnf
    refine Sm.cond (v := (((c.toNat : Nat) : Int) == 32)) rfl (fun hv => ?_) (fun hv => ?_)
    · have h32 : c = 32 := of_decide_eq_true ((u8_beq c 32).symm.trans hv)
      refine Sm.ofW ?_
      conv => whnf
      rw [lexF_blank hd h32] at hr
      exact ⟨(i + 1, out, κ, v), by (show l.length - (i + 1) < l.length - i); omega, subK_ok (by refine ⟨rfl, rfl, congrArg (fun x => some (Value.int .i64 x)) ei, trivial⟩), by omega, by (show out.length ≤ i + 1); omega, hr, hp.pik (by repeat (first | exact Pik.nil | exact Pik.refl _ | exact Rm.here | apply Rm.there | apply Pik.cons | apply Pik.skip))⟩
    · have h32 : ¬ c = 32 := of_decide_eq_false ((u8_beq c 32).symm.trans hv)
      have htw := tw_len isL r
      have htw2 := tw_len isP r
      refine Sm.seqC (fun e L' s' => e = .normal ∧ s' = s ∧ Sub [(0, sv l), (5, v), (6, .int .i64 (i : Int)), (7, .int .u8 ((c.toNat : Nat) : Int)), (8, .int .i64 ((i + 1 : Nat) : Int)), (9, .pointer (some ⟨p9, 0, none⟩)), (32, .bool (isL c))] L') ?_ ?_
      · conv => whnf
        rcases isL_q c with ⟨x1, x2⟩ | ⟨x1, x2⟩
        · repeat (first | (refine Br.yes x1 ?_; conv => whnf) | (first | (refine Br.yes (by first | with_reducible rfl | with_reducible exact beq_self_eq_true _ | rfl) ?_; conv => whnf) | (refine Br.no (by first | with_reducible rfl | with_reducible exact bne_self_eq_false _ | rfl) ?_; conv => whnf)))
          exact ⟨rfl, rfl, subK_ok ⟨rfl, rfl, rfl, rfl, rfl, rfl, congrArg (fun x => some (Value.bool x)) x2, trivial⟩⟩
        · repeat (first | (refine Br.no x1 ?_; conv => whnf) | (first | (refine Br.yes (by first | with_reducible rfl | with_reducible exact beq_self_eq_true _ | rfl) ?_; conv => whnf) | (refine Br.no (by first | with_reducible rfl | with_reducible exact bne_self_eq_false _ | rfl) ?_; conv => whnf)))
          exact ⟨rfl, rfl, subK_ok ⟨rfl, rfl, rfl, rfl, rfl, rfl, congrArg (fun x => some (Value.bool x)) x2.symm, trivial⟩⟩
      rintro e L' s' ⟨rfl, rfl, hs⟩
      refine Sm.weak _ hs ?_
      clear hs
      refine Sm.cond (v := isL c) rfl (fun hL => ?_) (fun hL => ?_)
      · refine Sm.ofW ?_
        conv => whnf
        refine hp.store (off := 0) (by repeat (first | exact Rm.here | apply Rm.there)) (by show 0 < 3; decide) rfl rfl rfl rfl ?_
        clear hp
        intro s hp _
        conv => whnf
        refine Lp.ofS (α := Nat) (fun k => [(0, sv l), (5, v), (6, .int .i64 (i : Int)), (8, .int .i64 (k : Int)), (9, .pointer (some ⟨p9, 0, none⟩))])
          (fun k s' => k ≤ l.length ∧ s' = s ∧ k + ((l.drop k).takeWhile isL).length = i + 1 + (r.takeWhile isL).length) (fun k => l.length - k) ?_ (i + 1) (subK_ok (by refine ⟨rfl, rfl, rfl, rfl, rfl, trivial⟩)) ⟨by omega, rfl, by rw [hri]⟩
        rintro k s2 ⟨hk, rfl, hkr⟩
        refine Sm.seq ?_
        by_cases hkl : k < l.length
        · have q1 : decide ((k : Int) < (((bs ⟨l.toArray⟩).length : Nat) : Int)) = true := decide_eq_true (by show (k : Int) < (l.length : Int); omega)
          rw [List.drop_eq_getElem_cons hkl] at hkr
          refine Sm.seqC (fun e L' s' => e = .normal ∧ s' = s2 ∧ Sub [(0, sv l), (5, v), (6, .int .i64 (i : Int)), (8, .int .i64 (k : Int)), (9, .pointer (some ⟨p9, 0, none⟩)), (55, .bool (isL l[k]))] L') ?_ ?_
          · conv => whnf
            repeat (first | (refine Br.yes q1 ?_; conv => whnf) | (first | (refine Br.yes (by first | with_reducible rfl | with_reducible exact beq_self_eq_true _ | rfl) ?_; conv => whnf) | (refine Br.no (by first | with_reducible rfl | with_reducible exact bne_self_eq_false _ | rfl) ?_; conv => whnf)))
            refine Om.of _ (str_index Tryd.underlying9 (l := l) (i := k) hkl .i64) ?_
            conv => whnf
            repeat (first | (refine Br.yes q1 ?_; conv => whnf) | (first | (refine Br.yes (by first | with_reducible rfl | with_reducible exact beq_self_eq_true _ | rfl) ?_; conv => whnf) | (refine Br.no (by first | with_reducible rfl | with_reducible exact bne_self_eq_false _ | rfl) ?_; conv => whnf)))
            rcases isL_q l[k] with ⟨x1, x2⟩ | ⟨x1, x2⟩
            · repeat (first | (refine Br.yes q1 ?_; conv => whnf) | (refine Br.yes x1 ?_; conv => whnf) | (first | (refine Br.yes (by first | with_reducible rfl | with_reducible exact beq_self_eq_true _ | rfl) ?_; conv => whnf) | (refine Br.no (by first | with_reducible rfl | with_reducible exact bne_self_eq_false _ | rfl) ?_; conv => whnf)))
              refine Om.of _ (str_index Tryd.underlying9 (l := l) (i := k) hkl .i64) ?_
              conv => whnf
              repeat (first | (refine Br.yes q1 ?_; conv => whnf) | (refine Br.yes x1 ?_; conv => whnf) | (first | (refine Br.yes (by first | with_reducible rfl | with_reducible exact beq_self_eq_true _ | rfl) ?_; conv => whnf) | (refine Br.no (by first | with_reducible rfl | with_reducible exact bne_self_eq_false _ | rfl) ?_; conv => whnf)))
              exact ⟨rfl, rfl, subK_ok ⟨rfl, rfl, rfl, rfl, rfl, congrArg (fun x => some (Value.bool x)) x2, trivial⟩⟩
            · repeat (first | (refine Br.no x1 ?_; conv => whnf) | (refine Br.yes q1 ?_; conv => whnf) | (first | (refine Br.yes (by first | with_reducible rfl | with_reducible exact beq_self_eq_true _ | rfl) ?_; conv => whnf) | (refine Br.no (by first | with_reducible rfl | with_reducible exact bne_self_eq_false _ | rfl) ?_; conv => whnf)))
              exact ⟨rfl, rfl, subK_ok ⟨rfl, rfl, rfl, rfl, rfl, congrArg (fun x => some (Value.bool x)) x2.symm, trivial⟩⟩
          rintro e L' s' ⟨rfl, rfl, hs⟩
          refine Sm.weak _ hs ?_
          clear hs
          refine Sm.ofW ?_
          conv => whnf
          cases hp2 : isL l[k] with
          | true =>
            rw [List.takeWhile_cons_of_pos hp2, List.length_cons] at hkr
            repeat (first | (refine Br.yes (by first | with_reducible rfl | with_reducible exact beq_self_eq_true _ | rfl) ?_; conv => whnf) | (refine Br.no (by first | with_reducible rfl | with_reducible exact bne_self_eq_false _ | rfl) ?_; conv => whnf))
            refine Sm.block ?_
            refine Sm.ofW ?_
            conv => whnf
            exact ⟨k + 1, by (show l.length - (k + 1) < l.length - k); omega, subK_ok (by refine ⟨rfl, rfl, rfl, congrArg (fun x => some (Value.int .i64 x)) (show IntKind.i64.wrap ((k : Int) + 1) = ((k + 1 : Nat) : Int) by rw [wi64 (by omega) (by omega)]; omega), rfl, trivial⟩), by omega, rfl, by omega⟩
          | false =>
            rw [List.takeWhile_cons_of_neg (by rw [hp2]; decide), List.length_nil] at hkr
            repeat (first | (refine Br.yes (by first | with_reducible rfl | with_reducible exact beq_self_eq_true _ | rfl) ?_; conv => whnf) | (refine Br.no (by first | with_reducible rfl | with_reducible exact bne_self_eq_false _ | rfl) ?_; conv => whnf))
            have hkn : k = i + (1 + (r.takeWhile isL).length) := by omega
            clear hkr
            subst hkn
            refine Sm.seqW ?_
            conv => whnf
            refine Om.of _ (slice_at hd (tw_take isL c r) (by omega)) ?_
            conv => whnf
            have hone : oneL c r i = some ⟨1, c :: r.takeWhile isL, i⟩ := if_pos hL
            rw [lexF_tok hd h32 hone, afterR_tok] at hr
            refine hp.store (off := 1) (by repeat (first | exact Rm.here | apply Rm.there)) (by show 1 < 3; decide) rfl rfl rfl rfl ?_
            clear hp
            intro s hp _
            conv => whnf
            refine Sm.live [0, 5, 8, 9] ?_
            conv => whnf
            refine Sm.seqW ?_
            conv => whnf
            refine hp.loadA (l := (Tok.mk 1 (c :: r.takeWhile isL) i).cells) (by repeat (first | exact Has.here | apply Has.there | (apply Has.swap; repeat (first | exact HasR.here | apply HasR.there)))) rfl (by rfl) rfl rfl ?_
            conv => whnf
            refine hp.lit (cs := (Tok.mk 1 (c :: r.takeWhile isL) i).cells) (e := 3) (by rfl) ?_
            clear hp
            intro b4 s4 hp _
            conv => whnf
            have x4 := hp.blkSl (n := 1) (C := (Tok.mk 1 (c :: r.takeWhile isL) i).cells) (k := b4) (b := b4) (e := 3) (by repeat (first | exact Has.here | apply Has.there | (apply Has.swap; repeat (first | exact HasR.here | apply HasR.there)))) rfl
            refine hp.app TK2 Tryd.underlying34 rfl (κ := κ) (v := v) (by repeat (first | exact Rm.here | apply Rm.there)) (elems_sl x4) rfl rfl (by omega) ?_
            clear hp x4
            intro v5 κ5 s hp
            rw [← tkC_snoc, show out.length + 1 = (out ++ [Tok.mk 1 (c :: r.takeWhile isL) i]).length by simp] at hp
            conv => whnf
            refine Sm.live [0, 5, 8] ?_
            conv => whnf
            refine Sm.ofW ?_
            conv => whnf
            exact ⟨(i + (c :: r.takeWhile isL).length, out ++ [Tok.mk 1 (c :: r.takeWhile isL) i], κ5, v5), by (show l.length - (i + (c :: r.takeWhile isL).length) < l.length - i); first | (simp; done) | (simp; omega), subK_ok (by refine ⟨rfl, rfl, congrArg (fun x => some (Value.int .i64 x)) ?_, trivial⟩; (show _ = ((i + (c :: r.takeWhile isL).length : Nat) : Int)); first | (simp; done) | (simp; omega)), by (show i + (c :: r.takeWhile isL).length ≤ l.length); first | (simp; done) | (simp; omega), by (show (out ++ [_]).length ≤ i + (c :: r.takeWhile isL).length); first | (simp; done) | (simp; omega), hr, hp.pik (by repeat (first | exact Pik.nil | exact Pik.refl _ | exact Rm.here | apply Rm.there | apply Pik.cons | apply Pik.skip))⟩
        · have q1 : decide ((k : Int) < (((bs ⟨l.toArray⟩).length : Nat) : Int)) = false := decide_eq_false (by show ¬ (k : Int) < (l.length : Int); omega)
          rw [List.drop_eq_nil_of_le (by omega), List.takeWhile_nil, List.length_nil] at hkr
          refine Sm.seqW ?_
          conv => whnf
          repeat (first | (refine Br.no q1 ?_; conv => whnf) | (first | (refine Br.yes (by first | with_reducible rfl | with_reducible exact beq_self_eq_true _ | rfl) ?_; conv => whnf) | (refine Br.no (by first | with_reducible rfl | with_reducible exact bne_self_eq_false _ | rfl) ?_; conv => whnf)))
          refine Sm.live [0, 5, 6, 8, 9, 55] ?_
          conv => whnf
          refine Sm.ofW ?_
          conv => whnf
          repeat (first | (refine Br.yes (by first | with_reducible rfl | with_reducible exact beq_self_eq_true _ | rfl) ?_; conv => whnf) | (refine Br.no (by first | with_reducible rfl | with_reducible exact bne_self_eq_false _ | rfl) ?_; conv => whnf))
          have hkn : k = i + (1 + (r.takeWhile isL).length) := by omega
          clear hkr
          subst hkn
          refine Sm.seqW ?_
          conv => whnf
          refine Om.of _ (slice_at hd (tw_take isL c r) (by omega)) ?_
          conv => whnf
          have hone : oneL c r i = some ⟨1, c :: r.takeWhile isL, i⟩ := if_pos hL
          rw [lexF_tok hd h32 hone, afterR_tok] at hr
          refine hp.store (off := 1) (by repeat (first | exact Rm.here | apply Rm.there)) (by show 1 < 3; decide) rfl rfl rfl rfl ?_
          clear hp
          intro s hp _
          conv => whnf
          refine Sm.live [0, 5, 8, 9] ?_
          conv => whnf
          refine Sm.seqW ?_
          conv => whnf
          refine hp.loadA (l := (Tok.mk 1 (c :: r.takeWhile isL) i).cells) (by repeat (first | exact Has.here | apply Has.there | (apply Has.swap; repeat (first | exact HasR.here | apply HasR.there)))) rfl (by rfl) rfl rfl ?_
          conv => whnf
          refine hp.lit (cs := (Tok.mk 1 (c :: r.takeWhile isL) i).cells) (e := 3) (by rfl) ?_
          clear hp
          intro b4 s4 hp _
          conv => whnf
          have x4 := hp.blkSl (n := 1) (C := (Tok.mk 1 (c :: r.takeWhile isL) i).cells) (k := b4) (b := b4) (e := 3) (by repeat (first | exact Has.here | apply Has.there | (apply Has.swap; repeat (first | exact HasR.here | apply HasR.there)))) rfl
          refine hp.app TK2 Tryd.underlying34 rfl (κ := κ) (v := v) (by repeat (first | exact Rm.here | apply Rm.there)) (elems_sl x4) rfl rfl (by omega) ?_
          clear hp x4
          intro v5 κ5 s hp
          rw [← tkC_snoc, show out.length + 1 = (out ++ [Tok.mk 1 (c :: r.takeWhile isL) i]).length by simp] at hp
          conv => whnf
          refine Sm.live [0, 5, 8] ?_
          conv => whnf
          refine Sm.ofW ?_
          conv => whnf
          exact ⟨(i + (c :: r.takeWhile isL).length, out ++ [Tok.mk 1 (c :: r.takeWhile isL) i], κ5, v5), by (show l.length - (i + (c :: r.takeWhile isL).length) < l.length - i); first | (simp; done) | (simp; omega), subK_ok (by refine ⟨rfl, rfl, congrArg (fun x => some (Value.int .i64 x)) ?_, trivial⟩; (show _ = ((i + (c :: r.takeWhile isL).length : Nat) : Int)); first | (simp; done) | (simp; omega)), by (show i + (c :: r.takeWhile isL).length ≤ l.length); first | (simp; done) | (simp; omega), by (show (out ++ [_]).length ≤ i + (c :: r.takeWhile isL).length); first | (simp; done) | (simp; omega), hr, hp.pik (by repeat (first | exact Pik.nil | exact Pik.refl _ | exact Rm.here | apply Rm.there | apply Pik.cons | apply Pik.skip))⟩
      · refine Sm.seqC (fun e L' s'' => e = .normal ∧ s'' = s' ∧ Sub [(0, sv l), (5, v), (6, .int .i64 (i : Int)), (7, .int .u8 ((c.toNat : Nat) : Int)), (8, .int .i64 ((i + 1 : Nat) : Int)), (9, .pointer (some ⟨p9, 0, none⟩)), (58, .bool (numAt c r))] L') ?_ ?_
        · conv => whnf
          refine (ydigit_spec _ c).mono ?_
          rintro _ s1 ⟨h1, rfl⟩
          obtain rfl := h1.symm
          conv => whnf
          cases hD : isD c with
          | true =>
            rw [show numAt c r = true by unfold numAt; rw [hD]; rfl]
            repeat (first | (refine Br.yes (by first | with_reducible rfl | with_reducible exact beq_self_eq_true _ | rfl) ?_; conv => whnf) | (refine Br.no (by first | with_reducible rfl | with_reducible exact bne_self_eq_false _ | rfl) ?_; conv => whnf))
            exact ⟨rfl, rfl, subK_ok ⟨rfl, rfl, rfl, rfl, rfl, rfl, rfl, trivial⟩⟩
          | false =>
            repeat (first | (refine Br.yes (by first | with_reducible rfl | with_reducible exact beq_self_eq_true _ | rfl) ?_; conv => whnf) | (refine Br.no (by first | with_reducible rfl | with_reducible exact bne_self_eq_false _ | rfl) ?_; conv => whnf))
            by_cases h45 : c = 45
            · have q : (((c.toNat : Nat) : Int) == 45) = true := by rw [h45]; rfl
              repeat (first | (refine Br.yes q ?_; conv => whnf) | (first | (refine Br.yes (by first | with_reducible rfl | with_reducible exact beq_self_eq_true _ | rfl) ?_; conv => whnf) | (refine Br.no (by first | with_reducible rfl | with_reducible exact bne_self_eq_false _ | rfl) ?_; conv => whnf)))
              match r, hd, hrl, hri with
              | [], hd, hrl, hri =>
                rw [show numAt c [] = false by unfold numAt; rw [hD]; simp]
                have q2 : decide (((i + 1 : Nat) : Int) < (((bs ⟨l.toArray⟩).length : Nat) : Int)) = false := decide_eq_false (by show ¬ ((i + 1 : Nat) : Int) < (l.length : Int); simp at hrl; omega)
                repeat (first | (refine Br.yes q ?_; conv => whnf) | (refine Br.no q2 ?_; conv => whnf) | (first | (refine Br.yes (by first | with_reducible rfl | with_reducible exact beq_self_eq_true _ | rfl) ?_; conv => whnf) | (refine Br.no (by first | with_reducible rfl | with_reducible exact bne_self_eq_false _ | rfl) ?_; conv => whnf)))
                exact ⟨rfl, rfl, subK_ok ⟨rfl, rfl, rfl, rfl, rfl, rfl, (by first | rfl | exact congrArg (fun x => some (Value.bool x)) q2), trivial⟩⟩
              | d :: r', hd, hrl, hri =>
                have hi1 : i + 1 < l.length := by simp at hrl; omega
                have hd1 : l[i + 1] = d := by have := List.drop_eq_getElem_cons hi1; rw [hri] at this; injection this with h1 h2; exact h1.symm
                have q2 : decide (((i + 1 : Nat) : Int) < (((bs ⟨l.toArray⟩).length : Nat) : Int)) = true := decide_eq_true (by show ((i + 1 : Nat) : Int) < (l.length : Int); omega)
                repeat (first | (refine Br.yes q ?_; conv => whnf) | (refine Br.yes q2 ?_; conv => whnf) | (first | (refine Br.yes (by first | with_reducible rfl | with_reducible exact beq_self_eq_true _ | rfl) ?_; conv => whnf) | (refine Br.no (by first | with_reducible rfl | with_reducible exact bne_self_eq_false _ | rfl) ?_; conv => whnf)))
                refine Om.of _ (str_index Tryd.underlying9 (l := l) (i := i + 1) hi1 .i64) ?_
                conv => whnf
                rw [hd1]
                repeat (first | (refine Br.yes q ?_; conv => whnf) | (refine Br.yes q2 ?_; conv => whnf) | (first | (refine Br.yes (by first | with_reducible rfl | with_reducible exact beq_self_eq_true _ | rfl) ?_; conv => whnf) | (refine Br.no (by first | with_reducible rfl | with_reducible exact bne_self_eq_false _ | rfl) ?_; conv => whnf)))
                refine (ydigit_spec _ d).mono ?_
                rintro _ s1 ⟨h1, rfl⟩
                obtain rfl := h1.symm
                conv => whnf
                repeat (first | (refine Br.yes q ?_; conv => whnf) | (refine Br.yes q2 ?_; conv => whnf) | (first | (refine Br.yes (by first | with_reducible rfl | with_reducible exact beq_self_eq_true _ | rfl) ?_; conv => whnf) | (refine Br.no (by first | with_reducible rfl | with_reducible exact bne_self_eq_false _ | rfl) ?_; conv => whnf)))
                rw [show numAt c (d :: r') = isD d by show (isD c || (decide (c = 45) && isD d)) = isD d; rw [hD, h45]; rfl]
                exact ⟨rfl, rfl, subK_ok ⟨rfl, rfl, rfl, rfl, rfl, rfl, rfl, trivial⟩⟩
            · have q : (((c.toNat : Nat) : Int) == 45) = false := (u8_beq c 45).trans (decide_eq_false h45)
              rw [show numAt c r = false by unfold numAt; rw [hD, decide_eq_false h45]; rfl]
              repeat (first | (refine Br.no q ?_; conv => whnf) | (first | (refine Br.yes (by first | with_reducible rfl | with_reducible exact beq_self_eq_true _ | rfl) ?_; conv => whnf) | (refine Br.no (by first | with_reducible rfl | with_reducible exact bne_self_eq_false _ | rfl) ?_; conv => whnf)))
              exact ⟨rfl, rfl, subK_ok ⟨rfl, rfl, rfl, rfl, rfl, rfl, (by first | rfl | exact congrArg (fun x => some (Value.bool x)) q), trivial⟩⟩
        rintro e L' s'' ⟨rfl, rfl, hs⟩
        refine Sm.weak _ hs ?_
        clear hs
        refine Sm.cond (v := numAt c r) rfl (fun hN => ?_) (fun hN => ?_)
        · refine Sm.ofW ?_
          conv => whnf
          refine hp.store (off := 0) (by repeat (first | exact Rm.here | apply Rm.there)) (by show 0 < 3; decide) rfl rfl rfl rfl ?_
          clear hp
          intro s hp _
          conv => whnf
          refine Lp.ofS (α := Nat) (fun k => [(0, sv l), (5, v), (6, .int .i64 (i : Int)), (8, .int .i64 (k : Int)), (9, .pointer (some ⟨p9, 0, none⟩))])
            (fun k s' => k ≤ l.length ∧ s' = s ∧ k + ((l.drop k).takeWhile isP).length = i + 1 + (r.takeWhile isP).length) (fun k => l.length - k) ?_ (i + 1) (subK_ok (by refine ⟨rfl, rfl, rfl, rfl, rfl, trivial⟩)) ⟨by omega, rfl, by rw [hri]⟩
          rintro k s2 ⟨hk, rfl, hkr⟩
          refine Sm.seq ?_
          by_cases hkl : k < l.length
          · have q1 : decide ((k : Int) < (((bs ⟨l.toArray⟩).length : Nat) : Int)) = true := decide_eq_true (by show (k : Int) < (l.length : Int); omega)
            rw [List.drop_eq_getElem_cons hkl] at hkr
            refine Sm.seqC (fun e L' s' => e = .normal ∧ s' = s2 ∧ Sub [(0, sv l), (5, v), (6, .int .i64 (i : Int)), (8, .int .i64 (k : Int)), (9, .pointer (some ⟨p9, 0, none⟩)), (93, .bool (isP l[k]))] L') ?_ ?_
            · conv => whnf
              repeat (first | (refine Br.yes q1 ?_; conv => whnf) | (first | (refine Br.yes (by first | with_reducible rfl | with_reducible exact beq_self_eq_true _ | rfl) ?_; conv => whnf) | (refine Br.no (by first | with_reducible rfl | with_reducible exact bne_self_eq_false _ | rfl) ?_; conv => whnf)))
              refine Om.of _ (str_index Tryd.underlying9 (l := l) (i := k) hkl .i64) ?_
              conv => whnf
              repeat (first | (refine Br.yes q1 ?_; conv => whnf) | (first | (refine Br.yes (by first | with_reducible rfl | with_reducible exact beq_self_eq_true _ | rfl) ?_; conv => whnf) | (refine Br.no (by first | with_reducible rfl | with_reducible exact bne_self_eq_false _ | rfl) ?_; conv => whnf)))
              refine (ydigit_spec _ l[k]).mono ?_
              rintro _ s1 ⟨h1, rfl⟩
              obtain rfl := h1.symm
              conv => whnf
              unfold isP
              cases hDk : isD l[k] with
              | true =>
                repeat (first | (refine Br.yes q1 ?_; conv => whnf) | (first | (refine Br.yes (by first | with_reducible rfl | with_reducible exact beq_self_eq_true _ | rfl) ?_; conv => whnf) | (refine Br.no (by first | with_reducible rfl | with_reducible exact bne_self_eq_false _ | rfl) ?_; conv => whnf)))
                exact ⟨rfl, rfl, subK_ok ⟨rfl, rfl, rfl, rfl, rfl, rfl, trivial⟩⟩
              | false =>
                repeat (first | (refine Br.yes q1 ?_; conv => whnf) | (first | (refine Br.yes (by first | with_reducible rfl | with_reducible exact beq_self_eq_true _ | rfl) ?_; conv => whnf) | (refine Br.no (by first | with_reducible rfl | with_reducible exact bne_self_eq_false _ | rfl) ?_; conv => whnf)))
                refine Om.of _ (str_index Tryd.underlying9 (l := l) (i := k) hkl .i64) ?_
                conv => whnf
                repeat (first | (refine Br.yes q1 ?_; conv => whnf) | (first | (refine Br.yes (by first | with_reducible rfl | with_reducible exact beq_self_eq_true _ | rfl) ?_; conv => whnf) | (refine Br.no (by first | with_reducible rfl | with_reducible exact bne_self_eq_false _ | rfl) ?_; conv => whnf)))
                exact ⟨rfl, rfl, subK_ok ⟨rfl, rfl, rfl, rfl, rfl, congrArg (fun x => some (Value.bool x)) (u8_beq l[k] 46), trivial⟩⟩
            rintro e L' s' ⟨rfl, rfl, hs⟩
            refine Sm.weak _ hs ?_
            clear hs
            refine Sm.ofW ?_
            conv => whnf
            cases hp2 : isP l[k] with
            | true =>
              rw [List.takeWhile_cons_of_pos hp2, List.length_cons] at hkr
              repeat (first | (refine Br.yes (by first | with_reducible rfl | with_reducible exact beq_self_eq_true _ | rfl) ?_; conv => whnf) | (refine Br.no (by first | with_reducible rfl | with_reducible exact bne_self_eq_false _ | rfl) ?_; conv => whnf))
              refine Sm.block ?_
              refine Sm.ofW ?_
              conv => whnf
              exact ⟨k + 1, by (show l.length - (k + 1) < l.length - k); omega, subK_ok (by refine ⟨rfl, rfl, rfl, congrArg (fun x => some (Value.int .i64 x)) (show IntKind.i64.wrap ((k : Int) + 1) = ((k + 1 : Nat) : Int) by rw [wi64 (by omega) (by omega)]; omega), rfl, trivial⟩), by omega, rfl, by omega⟩
            | false =>
              rw [List.takeWhile_cons_of_neg (by rw [hp2]; decide), List.length_nil] at hkr
              repeat (first | (refine Br.yes (by first | with_reducible rfl | with_reducible exact beq_self_eq_true _ | rfl) ?_; conv => whnf) | (refine Br.no (by first | with_reducible rfl | with_reducible exact bne_self_eq_false _ | rfl) ?_; conv => whnf))
              have hkn : k = i + (1 + (r.takeWhile isP).length) := by omega
              clear hkr
              subst hkn
              have hon : oneL c r i = if readE (c :: r.takeWhile isP) = 0 then some ⟨2, c :: r.takeWhile isP, i⟩ else none := by unfold oneL; rw [if_neg (by rw [hL]; decide), if_pos hN]
              refine Om.of _ (slice_at hd (tw_take isP c r) (by omega)) ?_
              conv => whnf
              refine hp.call (rread_spec hp.wf (c :: r.takeWhile isP) (by simp; omega)) ?_
              clear hp
              rintro _ s rfl hp _
              conv => whnf
              obtain ⟨dd, hde⟩ := readF_E (c :: r.takeWhile isP)
              rw [hde]
              conv => whnf
              refine hp.alloc (cs := Dc.zero.cells) (e := 4) rfl rfl rfl rfl rfl ?_
              clear hp
              intro p10 s hp _
              conv => whnf
              refine hp.storeW (vs := dd.cells) rfl (by repeat (first | exact Rm.here | apply Rm.there)) (by first | exact C2_same _ _ _ _ | exact C4_same _ _ _ _ _ _ _ _ | exact Dc_same _ _ | rfl) rfl rfl rfl ?_
              clear hp
              intro s hp _
              conv => whnf
              by_cases he : readE (c :: r.takeWhile isP) = 0
              · refine Br.no (bne_eq_false_iff_eq.2 he) ?_
                conv => whnf
                refine Sm.seqW ?_
                conv => whnf
                refine Om.of _ (slice_at hd (tw_take isP c r) (by omega)) ?_
                conv => whnf
                have hone : oneL c r i = some ⟨2, c :: r.takeWhile isP, i⟩ := by rw [hon, if_pos he]
                rw [lexF_tok hd h32 hone, afterR_tok] at hr
                refine hp.store (off := 1) (by repeat (first | exact Rm.here | apply Rm.there)) (by show 1 < 3; decide) rfl rfl rfl rfl ?_
                clear hp
                intro s hp _
                conv => whnf
                refine Sm.live [0, 5, 8, 9] ?_
                conv => whnf
                refine Sm.seqW ?_
                conv => whnf
                refine hp.loadA (l := (Tok.mk 2 (c :: r.takeWhile isP) i).cells) (by repeat (first | exact Has.here | apply Has.there | (apply Has.swap; repeat (first | exact HasR.here | apply HasR.there)))) rfl (by rfl) rfl rfl ?_
                conv => whnf
                refine hp.lit (cs := (Tok.mk 2 (c :: r.takeWhile isP) i).cells) (e := 3) (by rfl) ?_
                clear hp
                intro b4 s4 hp _
                conv => whnf
                have x4 := hp.blkSl (n := 1) (C := (Tok.mk 2 (c :: r.takeWhile isP) i).cells) (k := b4) (b := b4) (e := 3) (by repeat (first | exact Has.here | apply Has.there | (apply Has.swap; repeat (first | exact HasR.here | apply HasR.there)))) rfl
                refine hp.app TK2 Tryd.underlying34 rfl (κ := κ) (v := v) (by repeat (first | exact Rm.here | apply Rm.there)) (elems_sl x4) rfl rfl (by omega) ?_
                clear hp x4
                intro v5 κ5 s hp
                rw [← tkC_snoc, show out.length + 1 = (out ++ [Tok.mk 2 (c :: r.takeWhile isP) i]).length by simp] at hp
                conv => whnf
                refine Sm.live [0, 5, 8] ?_
                conv => whnf
                refine Sm.ofW ?_
                conv => whnf
                exact ⟨(i + (c :: r.takeWhile isP).length, out ++ [Tok.mk 2 (c :: r.takeWhile isP) i], κ5, v5), by (show l.length - (i + (c :: r.takeWhile isP).length) < l.length - i); first | (simp; done) | (simp; omega), subK_ok (by refine ⟨rfl, rfl, congrArg (fun x => some (Value.int .i64 x)) ?_, trivial⟩; (show _ = ((i + (c :: r.takeWhile isP).length : Nat) : Int)); first | (simp; done) | (simp; omega)), by (show i + (c :: r.takeWhile isP).length ≤ l.length); first | (simp; done) | (simp; omega), by (show (out ++ [_]).length ≤ i + (c :: r.takeWhile isP).length); first | (simp; done) | (simp; omega), hr, hp.pik (by repeat (first | exact Pik.nil | exact Pik.refl _ | exact Rm.here | apply Rm.there | apply Pik.cons | apply Pik.skip))⟩
              · refine Br.yes (bne_iff_ne.2 he) ?_
                conv => whnf
                have hone : oneL c r i = none := by rw [hon, if_neg he]
                rw [lexF_bad hd h32 hone] at hr
                refine ⟨hp.fr, ?_⟩
                rw [← hr]
                rfl
          · have q1 : decide ((k : Int) < (((bs ⟨l.toArray⟩).length : Nat) : Int)) = false := decide_eq_false (by show ¬ (k : Int) < (l.length : Int); omega)
            rw [List.drop_eq_nil_of_le (by omega), List.takeWhile_nil, List.length_nil] at hkr
            refine Sm.seqW ?_
            conv => whnf
            repeat (first | (refine Br.no q1 ?_; conv => whnf) | (first | (refine Br.yes (by first | with_reducible rfl | with_reducible exact beq_self_eq_true _ | rfl) ?_; conv => whnf) | (refine Br.no (by first | with_reducible rfl | with_reducible exact bne_self_eq_false _ | rfl) ?_; conv => whnf)))
            refine Sm.live [0, 5, 6, 8, 9, 93] ?_
            conv => whnf
            refine Sm.ofW ?_
            conv => whnf
            repeat (first | (refine Br.yes (by first | with_reducible rfl | with_reducible exact beq_self_eq_true _ | rfl) ?_; conv => whnf) | (refine Br.no (by first | with_reducible rfl | with_reducible exact bne_self_eq_false _ | rfl) ?_; conv => whnf))
            have hkn : k = i + (1 + (r.takeWhile isP).length) := by omega
            clear hkr
            subst hkn
            have hon : oneL c r i = if readE (c :: r.takeWhile isP) = 0 then some ⟨2, c :: r.takeWhile isP, i⟩ else none := by unfold oneL; rw [if_neg (by rw [hL]; decide), if_pos hN]
            refine Om.of _ (slice_at hd (tw_take isP c r) (by omega)) ?_
            conv => whnf
            refine hp.call (rread_spec hp.wf (c :: r.takeWhile isP) (by simp; omega)) ?_
            clear hp
            rintro _ s rfl hp _
            conv => whnf
            obtain ⟨dd, hde⟩ := readF_E (c :: r.takeWhile isP)
            rw [hde]
            conv => whnf
            refine hp.alloc (cs := Dc.zero.cells) (e := 4) rfl rfl rfl rfl rfl ?_
            clear hp
            intro p10 s hp _
            conv => whnf
            refine hp.storeW (vs := dd.cells) rfl (by repeat (first | exact Rm.here | apply Rm.there)) (by first | exact C2_same _ _ _ _ | exact C4_same _ _ _ _ _ _ _ _ | exact Dc_same _ _ | rfl) rfl rfl rfl ?_
            clear hp
            intro s hp _
            conv => whnf
            by_cases he : readE (c :: r.takeWhile isP) = 0
            · refine Br.no (bne_eq_false_iff_eq.2 he) ?_
              conv => whnf
              refine Sm.seqW ?_
              conv => whnf
              refine Om.of _ (slice_at hd (tw_take isP c r) (by omega)) ?_
              conv => whnf
              have hone : oneL c r i = some ⟨2, c :: r.takeWhile isP, i⟩ := by rw [hon, if_pos he]
              rw [lexF_tok hd h32 hone, afterR_tok] at hr
              refine hp.store (off := 1) (by repeat (first | exact Rm.here | apply Rm.there)) (by show 1 < 3; decide) rfl rfl rfl rfl ?_
              clear hp
              intro s hp _
              conv => whnf
              refine Sm.live [0, 5, 8, 9] ?_
              conv => whnf
              refine Sm.seqW ?_
              conv => whnf
              refine hp.loadA (l := (Tok.mk 2 (c :: r.takeWhile isP) i).cells) (by repeat (first | exact Has.here | apply Has.there | (apply Has.swap; repeat (first | exact HasR.here | apply HasR.there)))) rfl (by rfl) rfl rfl ?_
              conv => whnf
              refine hp.lit (cs := (Tok.mk 2 (c :: r.takeWhile isP) i).cells) (e := 3) (by rfl) ?_
              clear hp
              intro b4 s4 hp _
              conv => whnf
              have x4 := hp.blkSl (n := 1) (C := (Tok.mk 2 (c :: r.takeWhile isP) i).cells) (k := b4) (b := b4) (e := 3) (by repeat (first | exact Has.here | apply Has.there | (apply Has.swap; repeat (first | exact HasR.here | apply HasR.there)))) rfl
              refine hp.app TK2 Tryd.underlying34 rfl (κ := κ) (v := v) (by repeat (first | exact Rm.here | apply Rm.there)) (elems_sl x4) rfl rfl (by omega) ?_
              clear hp x4
              intro v5 κ5 s hp
              rw [← tkC_snoc, show out.length + 1 = (out ++ [Tok.mk 2 (c :: r.takeWhile isP) i]).length by simp] at hp
              conv => whnf
              refine Sm.live [0, 5, 8] ?_
              conv => whnf
              refine Sm.ofW ?_
              conv => whnf
              exact ⟨(i + (c :: r.takeWhile isP).length, out ++ [Tok.mk 2 (c :: r.takeWhile isP) i], κ5, v5), by (show l.length - (i + (c :: r.takeWhile isP).length) < l.length - i); first | (simp; done) | (simp; omega), subK_ok (by refine ⟨rfl, rfl, congrArg (fun x => some (Value.int .i64 x)) ?_, trivial⟩; (show _ = ((i + (c :: r.takeWhile isP).length : Nat) : Int)); first | (simp; done) | (simp; omega)), by (show i + (c :: r.takeWhile isP).length ≤ l.length); first | (simp; done) | (simp; omega), by (show (out ++ [_]).length ≤ i + (c :: r.takeWhile isP).length); first | (simp; done) | (simp; omega), hr, hp.pik (by repeat (first | exact Pik.nil | exact Pik.refl _ | exact Rm.here | apply Rm.there | apply Pik.cons | apply Pik.skip))⟩
            · refine Br.yes (bne_iff_ne.2 he) ?_
              conv => whnf
              have hone : oneL c r i = none := by rw [hon, if_neg he]
              rw [lexF_bad hd h32 hone] at hr
              refine ⟨hp.fr, ?_⟩
              rw [← hr]
              rfl
        · refine Sm.seqC (fun e L' s3 => e = .normal ∧ s3 = s'' ∧ Sub [(0, sv l), (5, v), (6, .int .i64 (i : Int)), (8, .int .i64 ((i + 1 : Nat) : Int)), (9, .pointer (some ⟨p9, 0, none⟩)), (107, .bool (isS c))] L') ?_ ?_
          · conv => whnf
            unfold isS
            have q0 := u8_beq c 40
            by_cases x0 : c = 40
            · replace q0 := q0.trans (decide_eq_true x0)
              rw [decide_eq_true x0]
              repeat (first  | (refine Br.yes q0 ?_; conv => whnf) | (first | (refine Br.yes (by first | with_reducible rfl | with_reducible exact beq_self_eq_true _ | rfl) ?_; conv => whnf) | (refine Br.no (by first | with_reducible rfl | with_reducible exact bne_self_eq_false _ | rfl) ?_; conv => whnf)))
              exact ⟨rfl, rfl, subK_ok ⟨rfl, rfl, rfl, rfl, rfl, (by first | rfl | exact congrArg (fun x => some (Value.bool x)) q0), trivial⟩⟩
            replace q0 := q0.trans (decide_eq_false x0)
            rw [decide_eq_false x0]
            have q1 := u8_beq c 41
            by_cases x1 : c = 41
            · replace q1 := q1.trans (decide_eq_true x1)
              rw [decide_eq_true x1]
              repeat (first | (refine Br.no q0 ?_; conv => whnf) | (refine Br.yes q1 ?_; conv => whnf) | (first | (refine Br.yes (by first | with_reducible rfl | with_reducible exact beq_self_eq_true _ | rfl) ?_; conv => whnf) | (refine Br.no (by first | with_reducible rfl | with_reducible exact bne_self_eq_false _ | rfl) ?_; conv => whnf)))
              exact ⟨rfl, rfl, subK_ok ⟨rfl, rfl, rfl, rfl, rfl, (by first | rfl | exact congrArg (fun x => some (Value.bool x)) q1), trivial⟩⟩
            replace q1 := q1.trans (decide_eq_false x1)
            rw [decide_eq_false x1]
            have q2 := u8_beq c 61
            by_cases x2 : c = 61
            · replace q2 := q2.trans (decide_eq_true x2)
              rw [decide_eq_true x2]
              repeat (first | (refine Br.no q0 ?_; conv => whnf) | (refine Br.no q1 ?_; conv => whnf) | (refine Br.yes q2 ?_; conv => whnf) | (first | (refine Br.yes (by first | with_reducible rfl | with_reducible exact beq_self_eq_true _ | rfl) ?_; conv => whnf) | (refine Br.no (by first | with_reducible rfl | with_reducible exact bne_self_eq_false _ | rfl) ?_; conv => whnf)))
              exact ⟨rfl, rfl, subK_ok ⟨rfl, rfl, rfl, rfl, rfl, (by first | rfl | exact congrArg (fun x => some (Value.bool x)) q2), trivial⟩⟩
            replace q2 := q2.trans (decide_eq_false x2)
            rw [decide_eq_false x2]
            have q3 := u8_beq c 60
            by_cases x3 : c = 60
            · replace q3 := q3.trans (decide_eq_true x3)
              rw [decide_eq_true x3]
              repeat (first | (refine Br.no q0 ?_; conv => whnf) | (refine Br.no q1 ?_; conv => whnf) | (refine Br.no q2 ?_; conv => whnf) | (refine Br.yes q3 ?_; conv => whnf) | (first | (refine Br.yes (by first | with_reducible rfl | with_reducible exact beq_self_eq_true _ | rfl) ?_; conv => whnf) | (refine Br.no (by first | with_reducible rfl | with_reducible exact bne_self_eq_false _ | rfl) ?_; conv => whnf)))
              exact ⟨rfl, rfl, subK_ok ⟨rfl, rfl, rfl, rfl, rfl, (by first | rfl | exact congrArg (fun x => some (Value.bool x)) q3), trivial⟩⟩
            replace q3 := q3.trans (decide_eq_false x3)
            rw [decide_eq_false x3]
            have q4 := u8_beq c 62
            repeat (first | (refine Br.no q0 ?_; conv => whnf) | (refine Br.no q1 ?_; conv => whnf) | (refine Br.no q2 ?_; conv => whnf) | (refine Br.no q3 ?_; conv => whnf) | (first | (refine Br.yes (by first | with_reducible rfl | with_reducible exact beq_self_eq_true _ | rfl) ?_; conv => whnf) | (refine Br.no (by first | with_reducible rfl | with_reducible exact bne_self_eq_false _ | rfl) ?_; conv => whnf)))
            exact ⟨rfl, rfl, subK_ok ⟨rfl, rfl, rfl, rfl, rfl, congrArg (fun x => some (Value.bool x)) q4, trivial⟩⟩
          rintro e L' s3 ⟨rfl, rfl, hs⟩
          refine Sm.weak _ hs ?_
          clear hs
          refine Sm.cond (v := isS c) rfl (fun hS => ?_) (fun hS => ?_)
          · refine Sm.ofW ?_
            conv => whnf
            refine hp.store (off := 0) (by repeat (first | exact Rm.here | apply Rm.there)) (by show 0 < 3; decide) rfl rfl rfl rfl ?_
            clear hp
            intro s hp _
            conv => whnf
            refine Sm.seqW ?_
            conv => whnf
            refine Om.of _ (slice_at hd (w := [c]) (n := 1) (by simp) (by omega)) ?_
            conv => whnf
            have hone : oneL c r i = some ⟨3, [c], i⟩ := by unfold oneL; rw [if_neg (by rw [hL]; decide), if_neg (by rw [hN]; decide), if_pos hS]
            rw [lexF_tok hd h32 hone, afterR_tok] at hr
            refine hp.store (off := 1) (by repeat (first | exact Rm.here | apply Rm.there)) (by show 1 < 3; decide) rfl rfl rfl rfl ?_
            clear hp
            intro s hp _
            conv => whnf
            refine Sm.live [0, 5, 8, 9] ?_
            conv => whnf
            refine Sm.seqW ?_
            conv => whnf
            refine hp.loadA (l := (Tok.mk 3 ([c]) i).cells) (by repeat (first | exact Has.here | apply Has.there | (apply Has.swap; repeat (first | exact HasR.here | apply HasR.there)))) rfl (by rfl) rfl rfl ?_
            conv => whnf
            refine hp.lit (cs := (Tok.mk 3 ([c]) i).cells) (e := 3) (by rfl) ?_
            clear hp
            intro b4 s4 hp _
            conv => whnf
            have x4 := hp.blkSl (n := 1) (C := (Tok.mk 3 ([c]) i).cells) (k := b4) (b := b4) (e := 3) (by repeat (first | exact Has.here | apply Has.there | (apply Has.swap; repeat (first | exact HasR.here | apply HasR.there)))) rfl
            refine hp.app TK2 Tryd.underlying34 rfl (κ := κ) (v := v) (by repeat (first | exact Rm.here | apply Rm.there)) (elems_sl x4) rfl rfl (by omega) ?_
            clear hp x4
            intro v5 κ5 s hp
            rw [← tkC_snoc, show out.length + 1 = (out ++ [Tok.mk 3 ([c]) i]).length by simp] at hp
            conv => whnf
            refine Sm.live [0, 5, 8] ?_
            conv => whnf
            refine Sm.ofW ?_
            conv => whnf
            exact ⟨(i + ([c]).length, out ++ [Tok.mk 3 ([c]) i], κ5, v5), by (show l.length - (i + ([c]).length) < l.length - i); first | (simp; done) | (simp; omega), subK_ok (by refine ⟨rfl, rfl, congrArg (fun x => some (Value.int .i64 x)) ?_, trivial⟩; (show _ = ((i + ([c]).length : Nat) : Int)); first | (simp; done) | (simp; omega)), by (show i + ([c]).length ≤ l.length); first | (simp; done) | (simp; omega), by (show (out ++ [_]).length ≤ i + ([c]).length); first | (simp; done) | (simp; omega), hr, hp.pik (by repeat (first | exact Pik.nil | exact Pik.refl _ | exact Rm.here | apply Rm.there | apply Pik.cons | apply Pik.skip))⟩
          · refine Sm.ofW ?_
            conv => whnf
            have hone : oneL c r i = none := by unfold oneL; rw [if_neg (by rw [hL]; decide), if_neg (by rw [hN]; decide), if_neg (by rw [hS]; decide)]
            rw [lexF_bad hd h32 hone] at hr
            refine ⟨hp.fr, ?_⟩
            rw [← hr]
            rfl
  · have hcI : l.length ≤ i := by have h : ¬ (i : Int) < (l.length : Int) := of_decide_eq_false hc; omega
    obtain rfl : i = l.length := by omega
    rw [lexF_end hcI] at hr
    conv => whnf
    refine Sm.seqW ?_
    conv => whnf
    refine hp.lit (cs := (Tok.mk 4 [] l.length).cells) (e := 3) (by rfl) ?_
    clear hp
    intro b4 s4 hp _
    conv => whnf
    have x4 := hp.blkSl (n := 1) (C := (Tok.mk 4 [] l.length).cells) (k := b4) (b := b4) (e := 3) (by repeat (first | exact Has.here | apply Has.there | (apply Has.swap; repeat (first | exact HasR.here | apply HasR.there)))) rfl
    refine hp.app TK2 Tryd.underlying34 rfl (κ := κ) (v := v) (by repeat (first | exact Rm.here | apply Rm.there)) (elems_sl x4) rfl rfl (by omega) ?_
    clear hp x4
    intro v5 κ5 s hp
    rw [← tkC_snoc, show out.length + 1 = (out ++ [Tok.mk 4 [] l.length]).length by simp] at hp
    conv => whnf
    refine Sm.live [2, 3, 4] ?_
    conv => whnf
    refine Sm.ofW ?_
    conv => whnf
    refine ⟨hp.fr, ?_⟩
    rw [← hr]
    exact ⟨v5, rfl, hp.out (by repeat (first | exact Rm.here | apply Rm.there))⟩
end Go.Ev
end

/- Tokens in memory; chapter 21's example. No condition. -/
noncomputable section
namespace Go.Ev
open Go.Proofs
variable [Lk]
set_option linter.unusedSectionVars false
set_option linter.unusedVariables false
set_option maxRecDepth 100000

theorem load_agg {P : Program} {t : TypeId} {fs : Array Field} {i : TypeInfo} (hu : P.underlying t = some (.struct fs)) (hi : P.info? t = some i) {s : St} {b off : Nat} {C cs : List Value} (hr : s.rd b = some C) (hs : sl C off i.size = some cs) :
    evLoad P t (.pointer (some ⟨b, off, none⟩)) s = some (.agg cs.toArray) := by
  unfold evLoad
  simp only [hr, hu, hi, hs]
theorem sl_sub {C cs : List Value} {off n i m : Nat} (h : Go.Ev.sl C off n = some cs) (hi : i + m ≤ n) : Go.Ev.sl C (off + i) m = some ((cs.drop i).take m) := by
  obtain ⟨g1, g2, g3, _⟩ := sl_some h
  have e : (List.drop (off + i) C).take m = (cs.drop i).take m := by
    rw [g2, List.drop_take, List.drop_drop, List.take_take, Nat.min_eq_left (by omega)]
  have hl : cs.length = n := by rw [g2]; simp; omega
  unfold Go.Ev.sl
  simp only [e]
  have : ((cs.drop i).take m).length = m := by simp; omega
  rw [this]; simp
theorem index_slN {P : Program} {t et sz by_ : Nat} {z : Value} (T : SlT P t et sz by_ z) {fs : Array Field} (hu : P.underlying et = some (.struct fs)) {s : St} {κ : Option Nat} {v : Value} {n i : Nat} {cs : List Value} (h : Sl s κ v sz n cs) (k : IntKind) (hi : i < n) :
    ∃ a, evIndexAddr P t v (.int k (i : Int)) = some (.pointer (some a)) ∧ evLoad P et (.pointer (some a)) s = some (.agg ((cs.drop (i * sz)).take sz).toArray) := by
  obtain ⟨j, hi1, hi2, hi3, hi4⟩ := T.hi
  rcases h.ex with ⟨rfl, rfl, rfl, rfl⟩ | ⟨b, off, c, C, rfl, hc, hl, hs, hm⟩
  · omega
  · have hr : s.rd b = some C := by
      rcases hm with ⟨k, _, hm⟩ | ⟨_, hm⟩
      · exact hm.rd
      · exact hm.rd
    have hle : i * sz + sz ≤ n * sz := by
      have : (i + 1) * sz ≤ n * sz := Nat.mul_le_mul_right _ hi
      rw [Nat.add_mul, Nat.one_mul] at this; exact this
    refine ⟨⟨b, off + i * sz, none⟩, ?_, load_agg hu hi1 hr (by rw [hi2]; exact sl_sub hs hle)⟩
    show (match P.underlying t, Value.slice (some ⟨b, off, none⟩) n c, Value.int k (.ofNat i) with
        | some (.slice e), .slice (some a) n _, .int _ (.ofNat i) => match Nat.blt i n, P.info? e with
          | true, some j => some (Value.pointer (some ⟨a.block, a.off + i * j.size, none⟩))
          | _, _ => none
        | some (.array n e), .pointer (some a), .int _ (.ofNat i) => match Nat.blt i n, P.info? e with
          | true, some j => some (Value.pointer (some ⟨a.block, a.off + i * j.size, none⟩))
          | _, _ => none
        | _, _, _ => none) = _
    rw [T.hu]
    simp only [blt_of hi, hi1, hi2]
/-- A field of an element. -/
theorem index_fld {P : Program} {t et sz by_ : Nat} {z : Value} (T : SlT P t et sz by_ z) {s : St} {κ : Option Nat} {v : Value} {n i : Nat} {cs : List Value} (h : Sl s κ v sz n cs) (k : IntKind) (hi : i < n) :
    ∃ b off C, evIndexAddr P t v (.int k (i : Int)) = some (.pointer (some ⟨b, off, none⟩)) ∧ s.rd b = some C ∧ ∀ j, j < sz → C[off + j]? = cs[i * sz + j]? := by
  obtain ⟨j, hi1, hi2, hi3, hi4⟩ := T.hi
  rcases h.ex with ⟨rfl, rfl, rfl, rfl⟩ | ⟨b, off, c, C, rfl, hc, hl, hs, hm⟩
  · omega
  · have hr : s.rd b = some C := by
      rcases hm with ⟨k, _, hm⟩ | ⟨_, hm⟩
      · exact hm.rd
      · exact hm.rd
    have hle : i * sz + sz ≤ n * sz := by
      have : (i + 1) * sz ≤ n * sz := Nat.mul_le_mul_right _ hi
      rw [Nat.add_mul, Nat.one_mul] at this; exact this
    refine ⟨b, off + i * sz, C, ?_, hr, fun j hj => ?_⟩
    · show (match P.underlying t, Value.slice (some ⟨b, off, none⟩) n c, Value.int k (.ofNat i) with
        | some (.slice e), .slice (some a) n _, .int _ (.ofNat i) => match Nat.blt i n, P.info? e with
          | true, some j => some (Value.pointer (some ⟨a.block, a.off + i * j.size, none⟩))
          | _, _ => none
        | some (.array n e), .pointer (some a), .int _ (.ofNat i) => match Nat.blt i n, P.info? e with
          | true, some j => some (Value.pointer (some ⟨a.block, a.off + i * j.size, none⟩))
          | _, _ => none
        | _, _, _ => none) = _
      rw [T.hu]
      simp only [blt_of hi, hi1, hi2]
    · obtain ⟨g1, g2, g3, g4⟩ := sl_some hs
      have hlt : i * sz + j < cs.length := by omega
      have := g4 (i * sz + j) _ (List.getElem?_eq_getElem hlt)
      rw [List.getElem?_eq_getElem hlt, ← this]
      congr 1; omega
theorem tk_e (t : Tok) : evEq Tryd.prog 10000 31 t.val t.val = some true := by
  obtain ⟨k, x, a⟩ := t
  have key : ∀ q1 q2 q3 : Bool, (k == k) = q1 → (bs ⟨x.toArray⟩ == bs ⟨x.toArray⟩) = q2 → (((a : Nat) : Int) == ((a : Nat) : Int)) = q3 → evEq Tryd.prog 10000 31 (Tok.mk k x a).val (Tok.mk k x a).val = some (q1 && (q2 && q3)) := by
    intro q1 q2 q3 h1 h2 h3
    conv => lhs; whnf
    show (match (some (k == k) : Option Bool) with | some true => (match (some (bs ⟨x.toArray⟩ == bs ⟨x.toArray⟩) : Option Bool) with | some true => (match (some (((a : Nat) : Int) == ((a : Nat) : Int)) : Option Bool) with | some true => some true | some false => some false | none => none) | some false => some false | none => none) | some false => some false | none => none) = _
    rw [h1, h2, h3]
    cases q1 <;> cases q2 <;> cases q3 <;> rfl
  exact key _ _ _ (beq_self_eq_true _) (beq_self_eq_true _) (beq_self_eq_true _)
theorem tk_eq (t : Tok) (c : Bool) : evBin Tryd.prog .eql 31 c t.val t.val = some (.bool true) := by
  have hg : Tryd.prog.eqGuardType Tryd.prog.depth 31 = false := by decide +kernel
  show (match !(Tryd.prog.eqGuardType Tryd.prog.depth 31) with | false => none | true => (match evEq Tryd.prog 10000 31 t.val t.val with | some b => some (Value.bool b) | none => none)) = _
  rw [hg, tk_e]; rfl
theorem tk_ne (t : Tok) (c : Bool) : evBin Tryd.prog .neq 31 c t.val t.val = some (.bool false) := by
  have hg : Tryd.prog.eqGuardType Tryd.prog.depth 31 = false := by decide +kernel
  show (match !(Tryd.prog.eqGuardType Tryd.prog.depth 31) with | false => none | true => (match evEq Tryd.prog 10000 31 t.val t.val with | some b => some (Value.bool (!b)) | none => none)) = _
  rw [hg, tk_e]; rfl
theorem index_tk {s : St} {κ : Option Nat} {v : Value} {l : List Tok} (h : Sl s κ v 3 l.length (tkC l)) (k : IntKind) {i : Nat} (hi : i < l.length) :
    ∃ a, evIndexAddr Tryd.prog 22 v (.int k (i : Int)) = some (.pointer (some a)) ∧ evLoad Tryd.prog 31 (.pointer (some a)) s = some l[i].val := by
  obtain ⟨a, e1, e2⟩ := index_slN TK Tryd.underlying31 h k hi
  rw [tkC_at hi] at e2
  exact ⟨a, e1, e2⟩
theorem index_tk2 {s : St} {κ : Option Nat} {v : Value} {l : List Tok} (h : Sl s κ v 3 l.length (tkC l)) (k : IntKind) {i : Nat} (hi : i < l.length) :
    ∃ a, evIndexAddr Tryd.prog 34 v (.int k (i : Int)) = some (.pointer (some a)) ∧ evLoad Tryd.prog 37 (.pointer (some a)) s = some l[i].val := by
  obtain ⟨a, e1, e2⟩ := index_slN TK2 Tryd.underlying37 h k hi
  rw [tkC_at hi] at e2
  exact ⟨a, e1, e2⟩
theorem tk_cell {l : List Tok} {i j : Nat} (h : i < l.length) (hj : j < 3) : (tkC l)[i * 3 + j]? = l[i].cells[j]? := by
  rw [← tkC_at h, List.getElem?_take, if_pos hj, List.getElem?_drop]
def exTk : List Tok := [⟨1, [97], 0⟩, ⟨3, [62], 1⟩, ⟨2, [45, 49, 46, 53], 2⟩, ⟨4, [], 6⟩]
theorem ex_tok : tokR [97, 62, 45, 49, 46, 53] = .inl exTk := by kernel_rfl
theorem xknown_spec {z : St} (wf : WF z) : Cw Tryd.prog 13 [] z fun r s' => K0 z s' ∧ r = .bool true := by
  have hp : Hp (fun _ => False) z [] [] z := Hp.start _ wf _ (by simp)
  refine Cw.enterS Tryd.func13 rfl rfl ?_
  refine Sm.seqW ?_
  conv => whnf
  refine Sm.seqW ?_
  conv => whnf
  refine hp.call (xtokens_spec hp.wf [97, 62, 45, 49, 46, 53]) ?_
  intro v0 s ha hp1 k1
  rw [ex_tok] at ha
  obtain ⟨w, rfl, how⟩ := ha
  obtain ⟨κ, hp⟩ := hp.on k1 how
  clear hp1 k1 how
  obtain ⟨aw, cw, rfl⟩ := (hp.slF (κ := κ) (v := w) (by repeat (first | exact Rm.here | apply Rm.there))).shape
  conv => whnf
  refine Sm.live [1, 2, 3] ?_
  conv => whnf
  refine Sm.seqW ?_
  conv => whnf
  repeat (first | (refine Br.yes (by first | with_reducible rfl | with_reducible exact beq_self_eq_true _ | rfl) ?_; conv => whnf) | (refine Br.no (by first | with_reducible rfl | with_reducible exact bne_self_eq_false _ | rfl) ?_; conv => whnf))
  obtain ⟨p0, e0, g0⟩ := index_tk (hp.slF (κ := κ) (v := .slice aw exTk.length cw) (by repeat (first | exact Rm.here | apply Rm.there))) .i64 (i := 0) (by decide)
  refine Om.of _ (e0) ?_
  conv => whnf
  repeat (first | (refine Br.yes (by first | with_reducible rfl | with_reducible exact beq_self_eq_true _ | rfl) ?_; conv => whnf) | (refine Br.no (by first | with_reducible rfl | with_reducible exact bne_self_eq_false _ | rfl) ?_; conv => whnf))
  refine Om.of _ (g0) ?_
  conv => whnf
  repeat (first | (refine Br.yes (by first | with_reducible rfl | with_reducible exact beq_self_eq_true _ | rfl) ?_; conv => whnf) | (refine Br.no (by first | with_reducible rfl | with_reducible exact bne_self_eq_false _ | rfl) ?_; conv => whnf))
  refine Om.of _ (tk_eq exTk[0] _) ?_
  conv => whnf
  repeat (first | (refine Br.yes (by first | with_reducible rfl | with_reducible exact beq_self_eq_true _ | rfl) ?_; conv => whnf) | (refine Br.no (by first | with_reducible rfl | with_reducible exact bne_self_eq_false _ | rfl) ?_; conv => whnf))
  obtain ⟨p1, e1, g1⟩ := index_tk (hp.slF (κ := κ) (v := .slice aw exTk.length cw) (by repeat (first | exact Rm.here | apply Rm.there))) .i64 (i := 1) (by decide)
  refine Om.of _ (e1) ?_
  conv => whnf
  repeat (first | (refine Br.yes (by first | with_reducible rfl | with_reducible exact beq_self_eq_true _ | rfl) ?_; conv => whnf) | (refine Br.no (by first | with_reducible rfl | with_reducible exact bne_self_eq_false _ | rfl) ?_; conv => whnf))
  refine Om.of _ (g1) ?_
  conv => whnf
  repeat (first | (refine Br.yes (by first | with_reducible rfl | with_reducible exact beq_self_eq_true _ | rfl) ?_; conv => whnf) | (refine Br.no (by first | with_reducible rfl | with_reducible exact bne_self_eq_false _ | rfl) ?_; conv => whnf))
  refine Om.of _ (tk_eq exTk[1] _) ?_
  conv => whnf
  repeat (first | (refine Br.yes (by first | with_reducible rfl | with_reducible exact beq_self_eq_true _ | rfl) ?_; conv => whnf) | (refine Br.no (by first | with_reducible rfl | with_reducible exact bne_self_eq_false _ | rfl) ?_; conv => whnf))
  obtain ⟨p2, e2, g2⟩ := index_tk (hp.slF (κ := κ) (v := .slice aw exTk.length cw) (by repeat (first | exact Rm.here | apply Rm.there))) .i64 (i := 2) (by decide)
  refine Om.of _ (e2) ?_
  conv => whnf
  repeat (first | (refine Br.yes (by first | with_reducible rfl | with_reducible exact beq_self_eq_true _ | rfl) ?_; conv => whnf) | (refine Br.no (by first | with_reducible rfl | with_reducible exact bne_self_eq_false _ | rfl) ?_; conv => whnf))
  refine Om.of _ (g2) ?_
  conv => whnf
  repeat (first | (refine Br.yes (by first | with_reducible rfl | with_reducible exact beq_self_eq_true _ | rfl) ?_; conv => whnf) | (refine Br.no (by first | with_reducible rfl | with_reducible exact bne_self_eq_false _ | rfl) ?_; conv => whnf))
  refine Om.of _ (tk_eq exTk[2] _) ?_
  conv => whnf
  repeat (first | (refine Br.yes (by first | with_reducible rfl | with_reducible exact beq_self_eq_true _ | rfl) ?_; conv => whnf) | (refine Br.no (by first | with_reducible rfl | with_reducible exact bne_self_eq_false _ | rfl) ?_; conv => whnf))
  obtain ⟨p3, e3, g3⟩ := index_tk (hp.slF (κ := κ) (v := .slice aw exTk.length cw) (by repeat (first | exact Rm.here | apply Rm.there))) .i64 (i := 3) (by decide)
  refine Om.of _ (e3) ?_
  conv => whnf
  repeat (first | (refine Br.yes (by first | with_reducible rfl | with_reducible exact beq_self_eq_true _ | rfl) ?_; conv => whnf) | (refine Br.no (by first | with_reducible rfl | with_reducible exact bne_self_eq_false _ | rfl) ?_; conv => whnf))
  refine Om.of _ (g3) ?_
  conv => whnf
  repeat (first | (refine Br.yes (by first | with_reducible rfl | with_reducible exact beq_self_eq_true _ | rfl) ?_; conv => whnf) | (refine Br.no (by first | with_reducible rfl | with_reducible exact bne_self_eq_false _ | rfl) ?_; conv => whnf))
  refine Om.of _ (tk_eq exTk[3] _) ?_
  conv => whnf
  repeat (first | (refine Br.yes (by first | with_reducible rfl | with_reducible exact beq_self_eq_true _ | rfl) ?_; conv => whnf) | (refine Br.no (by first | with_reducible rfl | with_reducible exact bne_self_eq_false _ | rfl) ?_; conv => whnf))
  refine Sm.ofW ?_
  conv => whnf
  exact ⟨hp.fr, rfl⟩
end Go.Ev
end
