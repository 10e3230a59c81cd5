/- Several texts in one: what the law's text leans on, one behind the other. No condition but those that each theorem names. -/
import Derived.Test.YtlmjeodogaaooaaDoorGLabel1
import Derived.Test.YtlmjeodogaaooaaDoorS6
import Derived.Test.YtlmjeodogaaooaaDoorF1
import Derived.Stop.LaidErr
import Derived.LaidSub
/- Texts: HasPrefix, CutPrefix, Cut at one byte. No condition. -/
noncomputable section
namespace Go.Ev
open Go.Proofs
variable [Lk]
set_option linter.unusedSectionVars false
set_option linter.unusedVariables false
set_option maxRecDepth 100000

/-- A text of these bytes. -/
abbrev sv (l : List UInt8) : Value := .string ⟨l.toArray⟩
theorem sv_bs (t : ByteArray) : Value.string t = sv (bs t) := congrArg Value.string (mk_bs t).symm
theorem str_index {P : Program} {t : TypeId} (hu : P.underlying t = some .string) {l : List UInt8} {i : Nat} (h : i < l.length) (k : IntKind) : evIndex P t (sv l) (.int k (i : Int)) = some (.int .u8 ((l[i].toNat : Nat) : Int)) := by
  show (match P.underlying t, sv l, Value.int k (.ofNat i) with
    | some (.array n e), .agg cs, .int _ (.ofNat i) => match Nat.blt i n, P.info? e with
      | true, some j => partL P e cs.toList (i * j.size)
      | _, _ => none
    | some .string, .string s, .int _ (.ofNat i) => match (bs s)[i]? with
      | some b => some (.int .u8 b.toNat)
      | none => none
    | _, _, _ => none) = _
  rw [hu]
  simp only [bs_mk, List.getElem?_eq_getElem h]
theorem str_slice {P : Program} {t : TypeId} (hu : P.underlying t = some .string) {l : List UInt8} (k1 k2 : IntKind) (lo hi : Option Nat) (h1 : lo.getD 0 ≤ hi.getD l.length) (h2 : hi.getD l.length ≤ l.length) :
    evSliceStr P t (sv l) (bndV k1 lo) (bndV k2 hi) = some (sv ((l.drop (lo.getD 0)).take (hi.getD l.length - lo.getD 0))) := by
  have hb : bnds l.length l.length (bndV k1 lo) (bndV k2 hi) none = some (lo.getD 0, hi.getD l.length, l.length) := by
    unfold bnds
    cases lo <;> cases hi <;> simp only [bndV, Option.getD_none, Option.getD_some] at h1 h2 ⊢
    · rw [bnd_nat h2]
    · rw [bnd_nat h1]
    · rw [bnd_nat h2]; simp only; rw [bnd_nat h1]
  unfold evSliceStr
  rw [hu]
  simp only [bs_mk, hb]
theorem str_take {P : Program} {t : TypeId} (hu : P.underlying t = some .string) {l : List UInt8} (k : IntKind) {j : Nat} (h : j ≤ l.length) : evSliceStr P t (sv l) none (some (.int k (j : Int))) = some (sv (l.take j)) := by
  have := str_slice hu (l := l) k k none (some j) (by simp) (by simpa using h)
  simpa [bndV] using this
theorem str_drop {P : Program} {t : TypeId} (hu : P.underlying t = some .string) {l : List UInt8} (k : IntKind) {j : Nat} (h : j ≤ l.length) : evSliceStr P t (sv l) (some (.int k (j : Int))) none = some (sv (l.drop j)) := by
  have := str_slice hu (l := l) k k (some j) none (by simpa using h) (by simp)
  simp only [bndV, Option.getD_some, Option.getD_none] at this
  rw [this, List.take_of_length_le (by simp)]
theorem sv_eq {P : Program} {t : TypeId} {c : Bool} (a b : List UInt8) : evBin P .eql t c (sv a) (sv b) = some (.bool (a == b)) := str_eq _ _
theorem sv_ne {P : Program} {t : TypeId} {c : Bool} (a b : List UInt8) : evBin P .neq t c (sv a) (sv b) = some (.bool (!(a == b))) := str_ne _ _
def hasP (l p : List UInt8) : Bool := decide (p.length ≤ l.length) && (l.take p.length == p)
theorem hasPrefix_spec (s : St) (l p : List UInt8) : Cw Tryd.prog 98 [sv l, sv p] s fun r s' => s' = s ∧ r = .bool (hasP l p) := by
  refine Cw.enterS Tryd.func98 rfl rfl ?_
  refine Sm.seqW ?_
  conv => whnf
  refine Sm.seqW ?_
  conv => whnf
  unfold hasP
  by_cases h : p.length ≤ l.length
  · have hd : decide ((l.length : Int) ≥ (p.length : Int)) = true := decide_eq_true (by omega)
    repeat (refine Br.yes hd ?_; conv => whnf)
    refine Om.of _ (str_take Tryd.underlying9 .i64 h) ?_
    conv => whnf
    repeat (refine Br.yes hd ?_; conv => whnf)
    refine Om.of _ (sv_eq (l.take p.length) p) ?_
    conv => whnf
    repeat (refine Br.yes hd ?_; conv => whnf)
    refine Sm.ofW ?_
    conv => whnf
    rw [decide_eq_true h]
    exact ⟨rfl, rfl⟩
  · have hd : decide ((l.length : Int) ≥ (p.length : Int)) = false := decide_eq_false (by omega)
    repeat (refine Br.no hd ?_; conv => whnf)
    refine Sm.ofW ?_
    conv => whnf
    rw [decide_eq_false h]
    exact ⟨rfl, rfl⟩
def cutP (l p : List UInt8) : Value := if hasP l p = true then .tuple #[sv (l.drop p.length), .bool true] else .tuple #[sv l, .bool false]
theorem lcutPrefix_spec (s : St) (l p : List UInt8) : Cw Tryd.prog 77 [sv l, sv p] s fun r s' => s' = s ∧ r = cutP l p := by
  refine Cw.enterS Tryd.func77 rfl rfl ?_
  refine Sm.seqW ?_
  conv => whnf
  refine Sm.seq ?_
  refine Sm.seqW ?_
  conv => whnf
  refine (hasPrefix_spec _ l p).mono ?_
  rintro _ s1 ⟨h1, rfl⟩
  obtain rfl := h1.symm
  conv => whnf
  refine Sm.ofW ?_
  conv => whnf
  unfold cutP
  cases h : hasP l p with
  | false =>
    repeat (first | (refine Br.yes (by first | with_reducible rfl | with_reducible exact beq_self_eq_true _ | rfl) ?_; conv => whnf) | (refine Br.no (by first | with_reducible rfl | with_reducible exact bne_self_eq_false _ | rfl) ?_; conv => whnf))
    exact ⟨rfl, rfl⟩
  | true =>
    have hl : p.length ≤ l.length := by
      unfold hasP at h
      simp only [Bool.and_eq_true, decide_eq_true_eq] at h
      exact h.1
    repeat (first | (refine Br.yes (by first | with_reducible rfl | with_reducible exact beq_self_eq_true _ | rfl) ?_; conv => whnf) | (refine Br.no (by first | with_reducible rfl | with_reducible exact bne_self_eq_false _ | rfl) ?_; conv => whnf))
    refine Sm.seqW ?_
    conv => whnf
    refine Om.of _ (str_drop Tryd.underlying9 .i64 hl) ?_
    conv => whnf
    refine Sm.ofW ?_
    conv => whnf
    exact ⟨rfl, rfl⟩
theorem cutPrefix_spec (s : St) (l p : List UInt8) : Cw Tryd.prog 59 [sv l, sv p] s fun r s' => s' = s ∧ r = cutP l p := by
  refine Cw.enterS Tryd.func59 rfl rfl ?_
  refine Sm.seqW ?_
  conv => whnf
  refine Sm.seqW ?_
  conv => whnf
  refine (lcutPrefix_spec _ l p).mono ?_
  rintro r s1 ⟨h1, hr⟩
  obtain rfl := h1.symm
  unfold cutP at hr ⊢
  cases h : hasP l p with
  | false =>
    rw [h] at hr
    subst hr
    conv => whnf
    refine Sm.ofW ?_
    conv => whnf
    exact ⟨rfl, rfl⟩
  | true =>
    rw [h] at hr
    subst hr
    conv => whnf
    refine Sm.ofW ?_
    conv => whnf
    exact ⟨rfl, rfl⟩
end Go.Ev
end

/- Texts: IndexByte, Index and Cut at one byte. No condition. -/
noncomputable section
namespace Go.Ev
open Go.Proofs
variable [Lk]
set_option linter.unusedSectionVars false
set_option linter.unusedVariables false
set_option maxRecDepth 100000

theorem idxL_some {c : Nat} : ∀ {l : List UInt8} {i j : Nat}, idxL c l i = some j → ∃ k, j = i + k ∧ ∃ h : k < l.length, l[k].toNat = c ∧ ∀ m, (hm : m < k) → (l[m]'(by omega)).toNat ≠ c
  | [], i, j, h => by cases h
  | x :: xs, i, j, h => by
    unfold idxL at h
    split at h
    · rename_i hb
      injection h with h
      exact ⟨0, by omega, by simp, Nat.eq_of_beq_eq_true hb, fun m hm => by omega⟩
    · rename_i hb
      obtain ⟨k, h1, h2, h3, h4⟩ := idxL_some h
      refine ⟨k + 1, by omega, by simp; omega, by simpa using h3, fun m hm => ?_⟩
      cases m with
      | zero => intro e; rw [show ((x :: xs)[0]'(by simp)) = x from rfl] at e; rw [e, Nat.beq_refl] at hb; cases hb
      | succ m => simpa using h4 m (by omega)
theorem idxL_none {c : Nat} : ∀ {l : List UInt8} {i : Nat}, idxL c l i = none → ∀ x ∈ l, x.toNat ≠ c
  | [], i, h => by simp
  | y :: ys, i, h => by
    unfold idxL at h
    split at h
    · cases h
    · rename_i hb
      intro x hx
      rcases List.mem_cons.1 hx with rfl | hx
      · intro e; rw [e, Nat.beq_refl] at hb; cases hb
      · exact idxL_none h x hx
def ixI (o : Option Nat) : Int := match o with
  | some i => (i : Int)
  | none => -1
theorem ibs_spec (s : St) (l : List UInt8) (c : UInt8) : Cw Tryd.prog 83 [sv l, .int .u8 ((c.toNat : Nat) : Int)] s fun r s' => s' = s ∧ r = .int .i64 (ixI (idxL c.toNat l 0)) := by
  refine ⟨⟨_, s, ⟨rfl, rfl⟩, .inr (.inl ⟨rfl, _, Tryd.func83, rfl, ?_⟩)⟩⟩
  have hc : Nat.blt c.toNat 256 = true := blt_of c.toNat_lt
  have : evExt "internal/bytealg.IndexByteString" [sv l, .int .u8 ((c.toNat : Nat) : Int)] = some (.int .i64 (ixI (idxL c.toNat l 0))) := by
    unfold evExt
    rw [show ("internal/bytealg.IndexByteString" == "internal/bytealg.IndexByteString") = true from rfl]
    show (match Nat.blt c.toNat 256 with
      | true => match idxL c.toNat (bs ⟨l.toArray⟩) 0 with
        | some i => some (Value.int .i64 (.ofNat i))
        | none => some (Value.int .i64 (.negSucc 0))
      | false => none) = _
    rw [hc, bs_mk]
    cases idxL c.toNat l 0 <;> rfl
  exact this
theorem indexByte_spec (s : St) (l : List UInt8) (c : UInt8) : Cw Tryd.prog 67 [sv l, .int .u8 ((c.toNat : Nat) : Int)] s fun r s' => s' = s ∧ r = .int .i64 (ixI (idxL c.toNat l 0)) := by
  refine Cw.enterS Tryd.func67 rfl rfl ?_
  refine Sm.seqW ?_
  conv => whnf
  refine Sm.seqW ?_
  conv => whnf
  refine (ibs_spec _ l c).mono ?_
  rintro _ s1 ⟨h1, rfl⟩
  obtain rfl := h1.symm
  conv => whnf
  refine Sm.ofW ?_
  conv => whnf
  exact ⟨rfl, rfl⟩
theorem index1_spec (s : St) (l : List UInt8) (c : UInt8) : Cw Tryd.prog 69 [sv l, sv [c]] s fun r s' => s' = s ∧ r = .int .i64 (ixI (idxL c.toNat l 0)) := by
  refine Cw.enterS Tryd.func69 rfl rfl ?_
  refine Sm.seqW ?_
  conv => whnf
  refine Sm.seqW ?_
  conv => whnf
  refine Sm.seq ?_
  refine Sm.block ?_
  refine Sm.seqW ?_
  conv => whnf
  repeat (first | (refine Br.yes (by first | with_reducible rfl | with_reducible exact beq_self_eq_true _ | rfl) ?_; conv => whnf) | (refine Br.no (by first | with_reducible rfl | with_reducible exact bne_self_eq_false _ | rfl) ?_; conv => whnf))
  refine Om.of _ (sv_eq [c] l) ?_
  conv => whnf
  repeat (first | (refine Br.yes (by first | with_reducible rfl | with_reducible exact beq_self_eq_true _ | rfl) ?_; conv => whnf) | (refine Br.no (by first | with_reducible rfl | with_reducible exact bne_self_eq_false _ | rfl) ?_; conv => whnf))
  refine Sm.ofW ?_
  conv => whnf
  by_cases he : l = [c]
  · subst he
    have hq : (([c] : List UInt8) == [c]) = true := beq_self_eq_true _
    rw [hq]
    repeat (first | (refine Br.yes (by first | with_reducible rfl | with_reducible exact beq_self_eq_true _ | rfl) ?_; conv => whnf) | (refine Br.no (by first | with_reducible rfl | with_reducible exact bne_self_eq_false _ | rfl) ?_; conv => whnf))
    have hi : ixI (idxL c.toNat [c] 0) = 0 := by
      unfold idxL
      rw [Nat.beq_refl]; rfl
    rw [hi]
    exact ⟨rfl, rfl⟩
  have hq : (([c] : List UInt8) == l) = false := beq_eq_false_iff_ne.2 fun h => he h.symm
  rw [hq]
  repeat (first | (refine Br.yes (by first | with_reducible rfl | with_reducible exact beq_self_eq_true _ | rfl) ?_; conv => whnf) | (refine Br.no (by first | with_reducible rfl | with_reducible exact bne_self_eq_false _ | rfl) ?_; conv => whnf))
  refine Om.of _ (str_index Tryd.underlying9 (l := [c]) (i := 0) (by simp) .i64) ?_
  conv => whnf
  refine (indexByte_spec _ l c).mono ?_
  rintro _ s1 ⟨h1, rfl⟩
  obtain rfl := h1.symm
  conv => whnf
  exact ⟨rfl, rfl⟩
end Go.Ev
end

/- Texts: Cut at one byte; a set of figures; Trim. No condition. -/
noncomputable section
namespace Go.Ev
open Go.Proofs
variable [Lk]
set_option linter.unusedSectionVars false
set_option linter.unusedVariables false
set_option maxRecDepth 100000

def cutF (l : List UInt8) (c : UInt8) : Value := match idxL c.toNat l 0 with
  | some i => .tuple #[sv (l.take i), sv (l.drop (i + 1)), .bool true]
  | none => .tuple #[sv l, sv [], .bool false]
theorem lcut_spec (s : St) (l : List UInt8) (hl : l.length < 4611686018427387904) (c : UInt8) : Cw Tryd.prog 54 [sv l, sv [c]] s fun r s' => s' = s ∧ r = cutF l c := by
  refine Cw.enterS Tryd.func54 rfl rfl ?_
  refine Sm.seqW ?_
  conv => whnf
  refine Sm.seq ?_
  refine Sm.seqW ?_
  conv => whnf
  refine (index1_spec _ l c).mono ?_
  rintro _ s1 ⟨h1, rfl⟩
  obtain rfl := h1.symm
  conv => whnf
  refine Sm.seqW ?_
  conv => whnf
  refine Sm.ofW ?_
  conv => whnf
  unfold cutF
  cases hi : idxL c.toNat l 0 with
  | none =>
    repeat (first | (refine Br.yes (by first | with_reducible rfl | with_reducible exact beq_self_eq_true _ | rfl) ?_; conv => whnf) | (refine Br.no (by first | with_reducible rfl | with_reducible exact bne_self_eq_false _ | rfl) ?_; conv => whnf))
    refine Sm.seqW ?_
    conv => whnf
    refine Sm.ofW ?_
    conv => whnf
    exact ⟨rfl, rfl⟩
  | some i =>
    obtain ⟨k, h1, h2, h3, h4⟩ := idxL_some hi
    have hk : i < l.length := by omega
    have hd : decide (ixI (some i) ≥ 0) = true := decide_eq_true (by show (i : Int) ≥ 0; omega)
    refine Br.yes (hd) ?_
    conv => whnf
    refine ⟨[0, 0, 3, 0, 0, 0, 32, 112, 248, 7, 1023, 2047], by decide +kernel, by decide +kernel, ?_⟩
    conv => whnf
    have e1 : IntKind.i64.wrap (ixI (some i) + (([c] : List UInt8).length : Int)) = ((i + 1 : Nat) : Int) := by
      show IntKind.i64.wrap ((i : Int) + 1) = _
      rw [wi64 (by omega) (by omega)]; push_cast; rfl
    refine Om.of _ (str_take Tryd.underlying9 (l := l) (j := i) .i64 (by omega)) ?_
    conv => whnf
    have e2 : IntKind.i64.wrap (ixI (some i) + ((bs ⟨#[c]⟩).length : Int)) = ((i + 1 : Nat) : Int) := e1
    rw [e2]
    refine Om.of _ (str_drop Tryd.underlying9 (l := l) (j := i + 1) .i64 (by omega)) ?_
    conv => whnf
    exact ⟨rfl, rfl⟩
theorem cut_spec (s : St) (l : List UInt8) (hl : l.length < 4611686018427387904) (c : UInt8) : Cw Tryd.prog 39 [sv l, sv [c]] s fun r s' => s' = s ∧ r = cutF l c := by
  refine Cw.enterS Tryd.func39 rfl rfl ?_
  refine Sm.seqW ?_
  conv => whnf
  refine Sm.seqW ?_
  conv => whnf
  refine (lcut_spec _ l hl c).mono ?_
  rintro r s1 ⟨h1, hr⟩
  obtain rfl := h1.symm
  unfold cutF at hr ⊢
  cases hi : idxL c.toNat l 0 with
  | none =>
    rw [hi] at hr
    subst hr
    conv => whnf
    refine Sm.ofW ?_
    conv => whnf
    exact ⟨rfl, rfl⟩
  | some i =>
    rw [hi] at hr
    subst hr
    conv => whnf
    refine Sm.ofW ?_
    conv => whnf
    exact ⟨rfl, rfl⟩
/-! ### the figures' set -/
def isD (b : UInt8) : Bool := decide (48 ≤ b.toNat ∧ b.toNat ≤ 57)
def natB (l : List Bool) : List Value := l.map Value.bool
def figB (i : Nat) : List Bool := (List.range 256).map fun k => decide (48 ≤ k ∧ k < 48 + i)
abbrev figs : List UInt8 := [48, 49, 50, 51, 52, 53, 54, 55, 56, 57]
theorem figB_len (i : Nat) : (figB i).length = 256 := by simp [figB]
theorem natB_len (l : List Bool) : (natB l).length = l.length := by simp [natB]
theorem natB_set (l : List Bool) (k : Nat) (b : Bool) : (natB l).set k (.bool b) = natB (l.set k b) := by simp [natB, List.map_set]
theorem figB_step : ∀ i, i < 10 → (figB i).set (48 + i) true = figB (i + 1) := by decide +kernel
theorem figs_at : ∀ i, (h : i < 10) → (figs[i]'h).toNat = 48 + i := by decide +kernel
theorem figB_get {k : Nat} (h : k < 256) : (natB (figB 10))[k]? = some (.bool (decide (48 ≤ k ∧ k ≤ 57))) := by
  unfold natB figB
  rw [List.map_map, List.getElem?_map, List.getElem?_range h]
  show some (Value.bool (decide (48 ≤ k ∧ k < 48 + 10))) = _
  have : decide (48 ≤ k ∧ k < 48 + 10) = decide (48 ≤ k ∧ k ≤ 57) := decide_eq_decide.2 (by omega)
  rw [this]
theorem asciiSet_spec {z : St} (wf : WF z) : Cw Tryd.prog 101 [sv figs] z fun r s' => K0 z s' ∧ r = .tuple #[.agg (natB (figB 10)).toArray, .bool true] := by
  have hp : Hp (fun _ => False) z [] [] z := Hp.start _ wf _ (by simp)
  refine Cw.enterS Tryd.func101 rfl rfl ?_
  refine Sm.seqW ?_
  conv => whnf
  refine hp.alloc (cs := natB (figB 0)) (e := 1) rfl rfl rfl (by kernel_rfl) rfl ?_
  clear hp
  intro p2 s hp _
  conv => whnf
  refine Sm.live [0, 2] ?_
  conv => whnf
  refine Sm.seq ?_
  refine Sm.seqW ?_
  conv => whnf
  refine Sm.block ?_
  refine Sm.loop ?_
  refine Lp.ofS (α := Nat) (fun i => [(0, sv figs), (2, .pointer (some ⟨p2, 0, none⟩)), (4, .int .i64 (i : Int))])
    (fun i s' => i ≤ 10 ∧ Hp (fun _ => False) z [] [blkA p2 p2 (natB (figB i)) 1] s') (fun i => 10 - i) ?_ 0 (subK_ok (by refine ⟨rfl, rfl, rfl, trivial⟩)) ⟨by decide, hp⟩
  clear hp
  rintro i s ⟨hi, hp⟩
  refine Sm.seq ?_
  refine Sm.seqW ?_
  conv => whnf
  refine Sm.ofW ?_
  conv => whnf
  refine Br.mk (fun hc => ?_) (fun hc => ?_)
  · have hc : i < 10 := by have h : (i : Int) < 10 := of_decide_eq_true hc; omega
    conv => whnf
    refine Sm.seq ?_
    refine Sm.block ?_
    refine Sm.seqW ?_
    conv => whnf
    refine Om.of _ (str_index Tryd.underlying9 (l := figs) (i := i) hc .i64) ?_
    conv => whnf
    rw [figs_at i hc]
    refine Sm.live [0, 2, 4, 5] ?_
    conv => whnf
    refine Sm.seq ?_
    refine Sm.seqW ?_
    conv => whnf
    refine Sm.ofW ?_
    conv => whnf
    refine Br.no (decide_eq_false (by omega)) ?_
    conv => whnf
    refine Sm.ofW ?_
    conv => whnf
    have hix : evIndexAddr Tryd.prog 141 (.pointer (some ⟨p2, 0, none⟩)) (.int .u8 ((48 + i : Nat) : Int)) = some (.pointer (some ⟨p2, 0 + (48 + i), none⟩)) := ixA Tryd.underlying141 (by rfl) rfl .u8 (by omega)
    refine Om.of _ (hix) ?_
    conv => whnf
    refine hp.store (by repeat (first | exact Rm.here | apply Rm.there)) (by rw [natB_len, figB_len]; omega) rfl rfl rfl rfl ?_
    clear hp
    intro s hp _
    rw [show 0 + (48 + i) = 48 + i by omega, natB_set, figB_step i hc] at hp
    conv => whnf
    refine Sm.ofW ?_
    conv => whnf
    have ei : IntKind.i64.wrap ((i : Int) + 1) = ((i + 1 : Nat) : Int) := by rw [wi64 (by omega) (by omega)]; push_cast; rfl
    exact ⟨i + 1, by (show 10 - (i + 1) < 10 - i); omega, subK_ok (by refine ⟨rfl, rfl, congrArg (fun x => some (Value.int .i64 x)) ei, trivial⟩), by omega, hp⟩
  · have hc : ¬ i < 10 := by have h : ¬ (i : Int) < 10 := of_decide_eq_false hc; omega
    obtain rfl : i = 10 := by omega
    conv => whnf
    refine Sm.seqW ?_
    conv => whnf
    refine hp.loadA (l := natB (figB 10)) (by repeat (first | exact Has.here | apply Has.there | (apply Has.swap; repeat (first | exact HasR.here | apply HasR.there)))) rfl (sl_all (by rw [natB_len, figB_len]; rfl)) rfl rfl ?_
    conv => whnf
    refine hp.storeW (vs := natB (figB 10)) rfl (by repeat (first | exact Rm.here | apply Rm.there)) rfl rfl (by rw [natB_len, figB_len]; rfl) (by kernel_rfl) ?_
    clear hp
    intro s hp _
    conv => whnf
    refine Sm.ofW ?_
    conv => whnf
    refine hp.loadA (l := natB (figB 10)) (by repeat (first | exact Has.here | apply Has.there | (apply Has.swap; repeat (first | exact HasR.here | apply HasR.there)))) rfl (sl_all (by rw [natB_len, figB_len]; rfl)) rfl rfl ?_
    conv => whnf
    exact ⟨hp.fr, rfl⟩
theorem contains_spec {s : St} {k p e : Nat} (hb : Blk s k p (natB (figB 10)) e) (c : UInt8) : Cw Tryd.prog 118 [.pointer (some ⟨p, 0, none⟩), .int .u8 ((c.toNat : Nat) : Int)] s fun r s' => s' = s ∧ r = .bool (isD c) := by
  have hc := c.toNat_lt
  refine Cw.enterS Tryd.func118 rfl rfl ?_
  refine Sm.seqW ?_
  conv => whnf
  refine Sm.seqW ?_
  conv => whnf
  have hix : evIndexAddr Tryd.prog 141 (.pointer (some ⟨p, 0, none⟩)) (.int .u8 ((c.toNat : Nat) : Int)) = some (.pointer (some ⟨p, 0 + c.toNat, none⟩)) := ixA Tryd.underlying141 (by rfl) rfl .u8 hc
  refine Om.of _ (hix) ?_
  conv => whnf
  refine Om.of _ (load_cell (v := .bool (isD c)) Tryd.underlying4 rfl rfl hb.rd (by rw [Nat.zero_add]; exact figB_get hc)) ?_
  conv => whnf
  refine Sm.ofW ?_
  conv => whnf
  exact ⟨rfl, rfl⟩
end Go.Ev
end

/- Texts: Trim of figures; dec.run. No condition. -/
noncomputable section
namespace Go.Ev
open Go.Proofs
variable [Lk]
set_option linter.unusedSectionVars false
set_option linter.unusedVariables false
set_option maxRecDepth 100000

def dropR (l : List UInt8) : List UInt8 := (l.reverse.dropWhile isD).reverse
theorem dropR_snoc (l : List UInt8) {c : UInt8} (h : isD c = true) : dropR (l ++ [c]) = dropR l := by simp [dropR, h]
theorem dropR_keep (l : List UInt8) {c : UInt8} (h : isD c = false) : dropR (l ++ [c]) = l ++ [c] := by simp [dropR, h]
theorem dw_all : ∀ L : List UInt8, (∀ x ∈ L.dropWhile isD, isD x = true) → ∀ x ∈ L, isD x = true
  | [], _ => by simp
  | a :: L, h => by
    by_cases ha : isD a = true
    · rw [List.dropWhile_cons_of_pos ha] at h
      intro x hx
      rcases List.mem_cons.1 hx with rfl | hx
      · exact ha
      · exact dw_all L h x hx
    · rw [List.dropWhile_cons_of_neg ha] at h
      exact absurd (h a (by simp)) ha
theorem dw_nil : ∀ L : List UInt8, L.dropWhile isD = [] ↔ ∀ x ∈ L, isD x = true
  | [] => by simp
  | a :: L => by
    by_cases ha : isD a = true
    · rw [List.dropWhile_cons_of_pos ha, dw_nil L]
      simp [ha]
    · rw [List.dropWhile_cons_of_neg ha]
      simp [ha]
theorem trim_nil (l : List UInt8) : ((dropR l).dropWhile isD == []) = l.all isD := by
  rw [Bool.eq_iff_iff, beq_iff_eq, dw_nil, List.all_eq_true]
  unfold dropR
  constructor
  · intro h x hx
    exact dw_all l.reverse (fun y hy => h y (by simpa using hy)) x (by simpa using hx)
  · intro h x hx
    rw [List.mem_reverse] at hx
    exact h x (by simpa using (List.dropWhile_sublist isD).subset hx)
theorem trimLeft_spec {s : St} {k p e : Nat} (hb : Blk s k p (natB (figB 10)) e) (l : List UInt8) : Cw Tryd.prog 102 [sv l, .pointer (some ⟨p, 0, none⟩)] s fun r s' => s' = s ∧ r = sv (l.dropWhile isD) := by
  refine Cw.enterS Tryd.func102 rfl rfl ?_
  refine Sm.seqW ?_
  conv => whnf
  refine Sm.seq ?_
  refine Sm.block ?_
  refine Sm.loop ?_
  refine Lp.ofS (α := List UInt8) (fun m => [(0, sv m), (1, .pointer (some ⟨p, 0, none⟩))]) (fun m s' => s' = s ∧ l.dropWhile isD = m.dropWhile isD) (fun m => m.length) ?_ l (subK_ok (by refine ⟨rfl, rfl, trivial⟩)) ⟨rfl, rfl⟩
  rintro m s1 ⟨h1, hm⟩
  obtain rfl := h1.symm
  cases m with
  | nil =>
    refine Sm.seq ?_
    refine Sm.seqW ?_
    conv => whnf
    refine Sm.ofW ?_
    conv => whnf
    repeat (first | (refine Br.yes (by first | with_reducible rfl | with_reducible exact beq_self_eq_true _ | rfl) ?_; conv => whnf) | (refine Br.no (by first | with_reducible rfl | with_reducible exact bne_self_eq_false _ | rfl) ?_; conv => whnf))
    refine Sm.seqW ?_
    conv => whnf
    refine Sm.ofW ?_
    conv => whnf
    exact ⟨rfl, by rw [hm]; rfl⟩
  | cons c m =>
    have hd : decide ((((c :: m) : List UInt8).length : Int) > 0) = true := decide_eq_true (by simp)
    refine Sm.seq ?_
    refine Sm.seqW ?_
    conv => whnf
    refine Sm.ofW ?_
    conv => whnf
    refine Br.yes (hd) ?_
    conv => whnf
    refine Sm.block ?_
    refine Sm.seq ?_
    refine Sm.seqW ?_
    conv => whnf
    refine Om.of _ (str_index Tryd.underlying9 (l := c :: m) (i := 0) (by simp) .i64) ?_
    conv => whnf
    refine (contains_spec hb c).mono ?_
    rintro _ s1 ⟨h1, rfl⟩
    obtain rfl := h1.symm
    conv => whnf
    refine Sm.ofW ?_
    conv => whnf
    cases hcd : isD c with
    | false =>
      repeat (first | (refine Br.yes (by first | with_reducible rfl | with_reducible exact beq_self_eq_true _ | rfl) ?_; conv => whnf) | (refine Br.no (by first | with_reducible rfl | with_reducible exact bne_self_eq_false _ | rfl) ?_; conv => whnf))
      refine Sm.seqW ?_
      conv => whnf
      refine Sm.ofW ?_
      conv => whnf
      refine ⟨rfl, ?_⟩
      rw [hm, List.dropWhile_cons_of_neg (by rw [hcd]; decide)]
      rfl
    | true =>
      repeat (first | (refine Br.yes (by first | with_reducible rfl | with_reducible exact beq_self_eq_true _ | rfl) ?_; conv => whnf) | (refine Br.no (by first | with_reducible rfl | with_reducible exact bne_self_eq_false _ | rfl) ?_; conv => whnf))
      refine Sm.ofW ?_
      conv => whnf
      refine Om.of _ (str_drop Tryd.underlying9 (l := c :: m) (j := 1) .i64 (by simp)) ?_
      conv => whnf
      exact ⟨m, by simp, subK_ok (by refine ⟨rfl, rfl, trivial⟩), rfl, by rw [hm, List.dropWhile_cons_of_pos hcd]⟩
theorem trimRight_spec {s : St} {k p e : Nat} (hb : Blk s k p (natB (figB 10)) e) (l : List UInt8) (hl : l.length < 4611686018427387904) : Cw Tryd.prog 103 [sv l, .pointer (some ⟨p, 0, none⟩)] s fun r s' => s' = s ∧ r = sv (dropR l) := by
  refine Cw.enterS Tryd.func103 rfl rfl ?_
  refine Sm.seqW ?_
  conv => whnf
  refine Sm.seq ?_
  refine Sm.block ?_
  refine Sm.loop ?_
  refine Lp.ofS (α := List UInt8) (fun m => [(0, sv m), (1, .pointer (some ⟨p, 0, none⟩))]) (fun m s' => s' = s ∧ m.length ≤ l.length ∧ dropR l = dropR m) (fun m => m.length) ?_ l (subK_ok (by refine ⟨rfl, rfl, trivial⟩)) ⟨rfl, Nat.le_refl _, rfl⟩
  rintro m s1 ⟨h1, hml, hm⟩
  obtain rfl := h1.symm
  by_cases h0 : m = []
  · subst h0
    refine Sm.seq ?_
    refine Sm.seqW ?_
    conv => whnf
    refine Sm.ofW ?_
    conv => whnf
    repeat (first | (refine Br.yes (by first | with_reducible rfl | with_reducible exact beq_self_eq_true _ | rfl) ?_; conv => whnf) | (refine Br.no (by first | with_reducible rfl | with_reducible exact bne_self_eq_false _ | rfl) ?_; conv => whnf))
    refine Sm.seqW ?_
    conv => whnf
    refine Sm.ofW ?_
    conv => whnf
    exact ⟨rfl, by rw [hm]; rfl⟩
  · obtain ⟨m, c, rfl⟩ : ∃ m' c, m = m' ++ [c] := ⟨m.dropLast, m.getLast h0, (List.dropLast_concat_getLast h0).symm⟩
    have hlen : (m ++ [c]).length = m.length + 1 := by simp
    have hd : decide (((m ++ [c]).length : Int) > 0) = true := decide_eq_true (by omega)
    have ek : IntKind.i64.wrap (((bs ⟨(m ++ [c]).toArray⟩).length : Int) - 1) = (m.length : Int) := by rw [bs_mk, hlen, wi64 (by omega) (by omega)]; omega
    have hg : (m ++ [c])[m.length]'(by omega) = c := by simp
    refine Sm.seq ?_
    refine Sm.seqW ?_
    conv => whnf
    refine Sm.ofW ?_
    conv => whnf
    refine Br.yes (hd) ?_
    conv => whnf
    refine Sm.block ?_
    refine Sm.seq ?_
    refine Sm.seqW ?_
    conv => whnf
    rw [ek]
    refine Om.of _ (str_index Tryd.underlying9 (l := m ++ [c]) (i := m.length) (by omega) .i64) ?_
    conv => whnf
    rw [hg]
    refine (contains_spec hb c).mono ?_
    rintro _ s1 ⟨h1, rfl⟩
    obtain rfl := h1.symm
    conv => whnf
    refine Sm.ofW ?_
    conv => whnf
    cases hcd : isD c with
    | false =>
      repeat (first | (refine Br.yes (by first | with_reducible rfl | with_reducible exact beq_self_eq_true _ | rfl) ?_; conv => whnf) | (refine Br.no (by first | with_reducible rfl | with_reducible exact bne_self_eq_false _ | rfl) ?_; conv => whnf))
      refine Sm.seqW ?_
      conv => whnf
      refine Sm.ofW ?_
      conv => whnf
      refine ⟨rfl, ?_⟩
      rw [hm, dropR_keep m hcd]
      rfl
    | true =>
      repeat (first | (refine Br.yes (by first | with_reducible rfl | with_reducible exact beq_self_eq_true _ | rfl) ?_; conv => whnf) | (refine Br.no (by first | with_reducible rfl | with_reducible exact bne_self_eq_false _ | rfl) ?_; conv => whnf))
      refine Sm.ofW ?_
      conv => whnf
      rw [ek]
      refine Om.of _ (str_take Tryd.underlying9 (l := m ++ [c]) (j := m.length) .i64 (by omega)) ?_
      conv => whnf
      have ht : (m ++ [c]).take m.length = m := by simp
      rw [ht]
      conv => whnf
      exact ⟨m, by (show m.length < (m ++ [c]).length); omega, subK_ok (by refine ⟨rfl, rfl, trivial⟩), rfl, by omega, by rw [hm, dropR_snoc m hcd]⟩
theorem trimF_spec {z : St} (wf : WF z) (l : List UInt8) (hl : l.length < 4611686018427387904) : Cw Tryd.prog 78 [sv l, sv figs] z fun r s' => K0 z s' ∧ r = sv ((dropR l).dropWhile isD) := by
  have hp : Hp (fun _ => False) z [] [] z := Hp.start _ wf _ (by simp)
  refine Cw.enterS Tryd.func78 rfl rfl ?_
  refine Sm.seqW ?_
  conv => whnf
  refine Sm.seq ?_
  refine Sm.seqW ?_
  conv => whnf
  refine Om.of _ (sv_eq l []) ?_
  conv => whnf
  by_cases h0 : l = []
  · subst h0
    have hq : (([] : List UInt8) == []) = true := rfl
    rw [hq]
    repeat (first | (refine Br.yes (by first | with_reducible rfl | with_reducible exact beq_self_eq_true _ | rfl) ?_; conv => whnf) | (refine Br.no (by first | with_reducible rfl | with_reducible exact bne_self_eq_false _ | rfl) ?_; conv => whnf))
    refine Sm.ofW ?_
    conv => whnf
    repeat (first | (refine Br.yes (by first | with_reducible rfl | with_reducible exact beq_self_eq_true _ | rfl) ?_; conv => whnf) | (refine Br.no (by first | with_reducible rfl | with_reducible exact bne_self_eq_false _ | rfl) ?_; conv => whnf))
    exact ⟨hp.fr, rfl⟩
  have hq : (l == []) = false := beq_eq_false_iff_ne.2 h0
  rw [hq]
  repeat (first | (refine Br.yes (by first | with_reducible rfl | with_reducible exact beq_self_eq_true _ | rfl) ?_; conv => whnf) | (refine Br.no (by first | with_reducible rfl | with_reducible exact bne_self_eq_false _ | rfl) ?_; conv => whnf))
  refine Om.of _ (sv_eq figs []) ?_
  conv => whnf
  repeat (first | (refine Br.yes (by first | with_reducible rfl | with_reducible exact beq_self_eq_true _ | rfl) ?_; conv => whnf) | (refine Br.no (by first | with_reducible rfl | with_reducible exact bne_self_eq_false _ | rfl) ?_; conv => whnf))
  refine Sm.ofW ?_
  conv => whnf
  repeat (first | (refine Br.yes (by first | with_reducible rfl | with_reducible exact beq_self_eq_true _ | rfl) ?_; conv => whnf) | (refine Br.no (by first | with_reducible rfl | with_reducible exact bne_self_eq_false _ | rfl) ?_; conv => whnf))
  refine Sm.seq ?_
  refine Sm.seqW ?_
  conv => whnf
  repeat (first | (refine Br.yes (by first | with_reducible rfl | with_reducible exact beq_self_eq_true _ | rfl) ?_; conv => whnf) | (refine Br.no (by first | with_reducible rfl | with_reducible exact bne_self_eq_false _ | rfl) ?_; conv => whnf))
  refine Sm.ofW ?_
  conv => whnf
  repeat (first | (refine Br.yes (by first | with_reducible rfl | with_reducible exact beq_self_eq_true _ | rfl) ?_; conv => whnf) | (refine Br.no (by first | with_reducible rfl | with_reducible exact bne_self_eq_false _ | rfl) ?_; conv => whnf))
  refine Sm.seq ?_
  refine Sm.seqW ?_
  conv => whnf
  refine hp.call (asciiSet_spec hp.wf) ?_
  clear hp
  rintro _ s rfl hp _
  conv => whnf
  refine hp.alloc (cs := natB (figB 0)) (e := 1) rfl rfl rfl (by kernel_rfl) rfl ?_
  clear hp
  intro p5 s hp _
  conv => whnf
  refine hp.storeW (C := natB (figB 0)) (vs := natB (figB 10)) rfl (by repeat (first | exact Rm.here | apply Rm.there)) (by rw [natB_len, natB_len, figB_len, figB_len]) rfl (by rw [natB_len, figB_len]; rfl) (by kernel_rfl) ?_
  clear hp
  intro s hp _
  conv => whnf
  refine Sm.seqW ?_
  conv => whnf
  refine Sm.ofW ?_
  conv => whnf
  repeat (first | (refine Br.yes (by first | with_reducible rfl | with_reducible exact beq_self_eq_true _ | rfl) ?_; conv => whnf) | (refine Br.no (by first | with_reducible rfl | with_reducible exact bne_self_eq_false _ | rfl) ?_; conv => whnf))
  refine (trimRight_spec (hp.blk (k := p5) (by repeat (first | exact Has.here | apply Has.there | (apply Has.swap; repeat (first | exact HasR.here | apply HasR.there))))) l hl).mono ?_
  rintro _ s1 ⟨h1, rfl⟩
  obtain rfl := h1.symm
  conv => whnf
  refine (trimLeft_spec (hp.blk (k := p5) (by repeat (first | exact Has.here | apply Has.there | (apply Has.swap; repeat (first | exact HasR.here | apply HasR.there))))) (dropR l)).mono ?_
  rintro _ s1 ⟨h1, rfl⟩
  obtain rfl := h1.symm
  conv => whnf
  exact ⟨hp.fr, rfl⟩
def runF (l : List UInt8) (most : Nat) : Bool := !(l == []) && (decide (l.length ≤ most) && l.all isD)
theorem run_spec {z : St} (wf : WF z) (l : List UInt8) (hl : l.length < 4611686018427387904) (most : Nat) : Cw Tryd.prog 60 [sv l, .int .i64 (most : Int)] z fun r s' => K0 z s' ∧ r = .bool (runF l most) := by
  have hp : Hp (fun _ => False) z [] [] z := Hp.start _ wf _ (by simp)
  refine Cw.enterS Tryd.func60 rfl rfl ?_
  refine Sm.seqW ?_
  conv => whnf
  refine Sm.seqW ?_
  conv => whnf
  refine Om.of _ (sv_ne l []) ?_
  conv => whnf
  unfold runF
  by_cases h0 : l = []
  · subst h0
    have hq : (!(([] : List UInt8) == [])) = false := rfl
    rw [hq]
    repeat (first | (refine Br.yes (by first | with_reducible rfl | with_reducible exact beq_self_eq_true _ | rfl) ?_; conv => whnf) | (refine Br.no (by first | with_reducible rfl | with_reducible exact bne_self_eq_false _ | rfl) ?_; conv => whnf))
    refine Sm.ofW ?_
    conv => whnf
    exact ⟨hp.fr, rfl⟩
  have hq : (!(l == [])) = true := by rw [beq_eq_false_iff_ne.2 h0]; rfl
  rw [hq]
  repeat (first | (refine Br.yes (by first | with_reducible rfl | with_reducible exact beq_self_eq_true _ | rfl) ?_; conv => whnf) | (refine Br.no (by first | with_reducible rfl | with_reducible exact bne_self_eq_false _ | rfl) ?_; conv => whnf))
  by_cases hm : l.length ≤ most
  · have hd : decide ((l.length : Int) ≤ (most : Int)) = true := decide_eq_true (by omega)
    repeat (first | (refine Br.yes hd ?_; conv => whnf) | (first | (refine Br.yes (by first | with_reducible rfl | with_reducible exact beq_self_eq_true _ | rfl) ?_; conv => whnf) | (refine Br.no (by first | with_reducible rfl | with_reducible exact bne_self_eq_false _ | rfl) ?_; conv => whnf)))
    refine hp.call (trimF_spec hp.wf l hl) ?_
    clear hp
    rintro _ s rfl hp _
    conv => whnf
    repeat (first | (refine Br.yes hd ?_; conv => whnf) | (first | (refine Br.yes (by first | with_reducible rfl | with_reducible exact beq_self_eq_true _ | rfl) ?_; conv => whnf) | (refine Br.no (by first | with_reducible rfl | with_reducible exact bne_self_eq_false _ | rfl) ?_; conv => whnf)))
    refine Om.of _ (sv_eq ((dropR l).dropWhile isD) []) ?_
    conv => whnf
    repeat (first | (refine Br.yes hd ?_; conv => whnf) | (first | (refine Br.yes (by first | with_reducible rfl | with_reducible exact beq_self_eq_true _ | rfl) ?_; conv => whnf) | (refine Br.no (by first | with_reducible rfl | with_reducible exact bne_self_eq_false _ | rfl) ?_; conv => whnf)))
    refine Sm.ofW ?_
    conv => whnf
    refine ⟨hp.fr, congrArg Value.bool ?_⟩
    rw [trim_nil, decide_eq_true hm]
    rfl
  · have hd : decide ((l.length : Int) ≤ (most : Int)) = false := decide_eq_false (by omega)
    repeat (first | (refine Br.no hd ?_; conv => whnf) | (first | (refine Br.yes (by first | with_reducible rfl | with_reducible exact beq_self_eq_true _ | rfl) ?_; conv => whnf) | (refine Br.no (by first | with_reducible rfl | with_reducible exact bne_self_eq_false _ | rfl) ?_; conv => whnf)))
    refine Sm.ofW ?_
    conv => whnf
    refine ⟨hp.fr, congrArg Value.bool ?_⟩
    rw [decide_eq_false hm]
    rfl
end Go.Ev
end

/- dec.Read walked. No condition. -/
noncomputable section
namespace Go.Ev
open Go.Proofs
variable [Lk]
set_option linter.unusedSectionVars false
set_option linter.unusedVariables false
set_option maxRecDepth 100000

/-- What figures are worth. -/
def valD (l : List UInt8) : Nat := l.foldl (fun a b => 10 * a + (b.toNat - 48)) 0
theorem valD_snoc (l : List UInt8) (c : UInt8) : valD (l ++ [c]) = 10 * valD l + (c.toNat - 48) := by simp [valD]
def bodyF (l : List UInt8) : List UInt8 := if hasP l [45] = true then l.drop 1 else l
def wholeF (b : List UInt8) : List UInt8 := match idxL 46 b 0 with
  | some i => b.take i
  | none => b
def restF (b : List UInt8) : List UInt8 := match idxL 46 b 0 with
  | some i => b.drop (i + 1)
  | none => []
def pointF (b : List UInt8) : Bool := (idxL 46 b 0).isSome
def readOk (b : List UInt8) : Bool := runF (wholeF b) 30 && (!pointF b || runF (restF b) 9)
def readF (l : List UInt8) : Value :=
  if readOk (bodyF l) = false then errD 2 else if 10 ^ 30 ≤ valD (wholeF (bodyF l) ++ restF (bodyF l)) then errD 3
  else if (hasP l [45] && decide (valD (wholeF (bodyF l) ++ restF (bodyF l)) = 0)) = true then errD 2 else okD ⟨hasP l [45], valD (wholeF (bodyF l) ++ restF (bodyF l)), (restF (bodyF l)).length⟩
theorem cutP_eq (l : List UInt8) : cutP l [45] = .tuple #[sv (bodyF l), .bool (hasP l [45])] := by
  unfold cutP bodyF
  cases hasP l [45] <;> rfl
theorem cutF_eq (b : List UInt8) : cutF b 46 = .tuple #[sv (wholeF b), sv (restF b), .bool (pointF b)] := by
  unfold cutF wholeF restF pointF
  show (match idxL 46 b 0 with
    | some i => Value.tuple #[sv (b.take i), sv (b.drop (i + 1)), .bool true]
    | none => .tuple #[sv b, sv [], .bool false]) = _
  cases idxL 46 b 0 <;> rfl
theorem body_len (l : List UInt8) : (bodyF l).length ≤ l.length := by
  unfold bodyF; split <;> simp
theorem whole_len (b : List UInt8) : (wholeF b).length ≤ b.length := by
  unfold wholeF; split <;> simp; omega
theorem rest_len (b : List UInt8) : (restF b).length ≤ b.length := by
  unfold restF; split <;> simp
theorem runF_ok {l : List UInt8} {m : Nat} (h : runF l m = true) : l ≠ [] ∧ l.length ≤ m ∧ ∀ x ∈ l, isD x = true := by
  unfold runF at h
  simp only [Bool.and_eq_true, Bool.not_eq_true', beq_eq_false_iff_ne, decide_eq_true_eq, List.all_eq_true] at h
  exact h
theorem readOk_ok {b : List UInt8} (h : readOk b = true) : (wholeF b ++ restF b).length ≤ 39 ∧ ∀ x ∈ wholeF b ++ restF b, isD x = true := by
  unfold readOk at h
  simp only [Bool.and_eq_true, Bool.or_eq_true, Bool.not_eq_true'] at h
  obtain ⟨_, h1, h2⟩ := runF_ok h.1
  rcases h.2 with g | g
  · have : restF b = [] := by
      unfold pointF at g
      unfold restF
      cases hi : idxL 46 b 0 with
      | none => rfl
      | some i => rw [hi] at g; cases g
    rw [this, List.append_nil]
    exact ⟨by omega, h2⟩
  · obtain ⟨_, g1, g2⟩ := runF_ok g
    refine ⟨by simp; omega, fun x hx => ?_⟩
    rcases List.mem_append.1 hx with k | k
    · exact h2 x k
    · exact g2 x k
theorem BD : SlT Tryd.prog 28 5 1 1 (.int .u8 0) := ⟨Tryd.underlying28, ⟨_, rfl, rfl, rfl, rfl⟩, rfl, rfl, by decide, by decide⟩
theorem isD_d {c : UInt8} (h : isD c = true) : 48 ≤ c.toNat ∧ c.toNat ≤ 57 := of_decide_eq_true h
/-- What stands while figures are read. -/
structure RdOk (W : List UInt8) (i c : Nat) (over : Bool) : Prop where
  c30 : c < 10 ^ 30
  ov : over = decide (10 ^ 30 ≤ valD (W.take i))
  val : over = false → c = valD (W.take i)
theorem read_spec {z : St} (wf : WF z) (l : List UInt8) (hl : l.length < 4611686018427387904) : Cw Tryd.prog 50 [sv l] z fun r s' => K0 z s' ∧ r = readF l := by
  have hp : Hp (fun _ => False) z [] [] z := Hp.start _ wf _ (by simp)
  have hb := body_len l
  have hw := whole_len (bodyF l)
  have hr := rest_len (bodyF l)
  refine Cw.enterS Tryd.func50 rfl rfl ?_
  refine Sm.seqW ?_
  conv => whnf
  refine hp.alloc (cs := Dc.zero.cells) (e := 4) rfl rfl rfl rfl rfl ?_
  clear hp
  intro p2 s hp _
  conv => whnf
  refine Sm.live [0, 2] ?_
  conv => whnf
  refine Sm.seqW ?_
  conv => whnf
  refine (cutPrefix_spec _ l [45]).mono ?_
  rintro _ s1 ⟨h1, rfl⟩
  obtain rfl := h1.symm
  conv => whnf
  rw [cutP_eq]
  conv => whnf
  refine Sm.live [2, 4, 5] ?_
  conv => whnf
  refine Sm.seqW ?_
  conv => whnf
  refine (cut_spec _ (bodyF l) (by omega) 46).mono ?_
  rintro _ s1 ⟨h1, rfl⟩
  obtain rfl := h1.symm
  conv => whnf
  rw [cutF_eq]
  conv => whnf
  refine Sm.live [2, 5, 6, 7, 8] ?_
  conv => whnf
  have hread : readF l = if readOk (bodyF l) = false then errD 2 else if 10 ^ 30 ≤ valD (wholeF (bodyF l) ++ restF (bodyF l)) then errD 3
    else if (hasP l [45] && decide (valD (wholeF (bodyF l) ++ restF (bodyF l)) = 0)) = true then errD 2 else okD ⟨hasP l [45], valD (wholeF (bodyF l) ++ restF (bodyF l)), (restF (bodyF l)).length⟩ := rfl
  have hokk := readOk_ok (b := bodyF l)
  have hdef : readOk (bodyF l) = (runF (wholeF (bodyF l)) 30 && (!pointF (bodyF l) || runF (restF (bodyF l)) 9)) := rfl
  generalize wholeF (bodyF l) = W at *
  generalize restF (bodyF l) = R at *
  generalize pointF (bodyF l) = pt at *
  generalize hasP l [45] = ng at *
  generalize readOk (bodyF l) = ok at *
  generalize readF l = RF at *
  refine Sm.seq ?_
  refine Sm.seqC (fun e L' s' => e = .normal ∧ Hp (fun _ => False) z [] [blkA p2 p2 Dc.zero.cells 4] s' ∧ Sub [(2, .pointer (some ⟨p2, 0, none⟩)), (5, .bool ng), (6, sv W), (7, sv R), (37, .bool (!ok))] L') ?_ ?_
  · conv => whnf
    refine hp.call (run_spec hp.wf W (by omega) 30) ?_
    clear hp
    rintro _ s rfl hp _
    conv => whnf
    cases h1 : runF W 30 with
    | false =>
      have : ok = false := by rw [hdef, h1]; rfl
      subst this
      repeat (first | (refine Br.yes (by first | with_reducible rfl | with_reducible exact beq_self_eq_true _ | rfl) ?_; conv => whnf) | (refine Br.no (by first | with_reducible rfl | with_reducible exact bne_self_eq_false _ | rfl) ?_; conv => whnf))
      exact ⟨rfl, hp, subK_ok ⟨rfl, rfl, rfl, rfl, rfl, trivial⟩⟩
    | true =>
      repeat (first | (refine Br.yes (by first | with_reducible rfl | with_reducible exact beq_self_eq_true _ | rfl) ?_; conv => whnf) | (refine Br.no (by first | with_reducible rfl | with_reducible exact bne_self_eq_false _ | rfl) ?_; conv => whnf))
      cases pt with
      | false =>
        have : ok = true := by rw [hdef, h1]; rfl
        subst this
        repeat (first | (refine Br.yes (by first | with_reducible rfl | with_reducible exact beq_self_eq_true _ | rfl) ?_; conv => whnf) | (refine Br.no (by first | with_reducible rfl | with_reducible exact bne_self_eq_false _ | rfl) ?_; conv => whnf))
        exact ⟨rfl, hp, subK_ok ⟨rfl, rfl, rfl, rfl, rfl, trivial⟩⟩
      | true =>
        repeat (first | (refine Br.yes (by first | with_reducible rfl | with_reducible exact beq_self_eq_true _ | rfl) ?_; conv => whnf) | (refine Br.no (by first | with_reducible rfl | with_reducible exact bne_self_eq_false _ | rfl) ?_; conv => whnf))
        refine hp.call (run_spec hp.wf R (by omega) 9) ?_
        clear hp
        rintro _ s rfl hp _
        conv => whnf
        have : ok = runF R 9 := by rw [hdef, h1]; rfl
        rw [← this]
        repeat (first | (refine Br.yes (by first | with_reducible rfl | with_reducible exact beq_self_eq_true _ | rfl) ?_; conv => whnf) | (refine Br.no (by first | with_reducible rfl | with_reducible exact bne_self_eq_false _ | rfl) ?_; conv => whnf))
        exact ⟨rfl, hp, subK_ok ⟨rfl, rfl, rfl, rfl, rfl, trivial⟩⟩
  clear hp
  rintro e L' s ⟨rfl, hp, hs⟩
  refine Sm.weak _ hs ?_
  clear hs
  refine Sm.ofW ?_
  conv => whnf
  cases ok with
  | false =>
    repeat (first | (refine Br.yes (by first | with_reducible rfl | with_reducible exact beq_self_eq_true _ | rfl) ?_; conv => whnf) | (refine Br.no (by first | with_reducible rfl | with_reducible exact bne_self_eq_false _ | rfl) ?_; conv => whnf))
    refine hp.storeW (vs := Dc.zero.cells) rfl (by repeat (first | exact Rm.here | apply Rm.there)) (by first | exact C2_same _ _ _ _ | exact C4_same _ _ _ _ _ _ _ _ | exact Dc_same _ _ | rfl) rfl rfl rfl ?_
    clear hp
    intro s hp _
    conv => whnf
    refine hp.loadA (l := Dc.zero.cells) (by repeat (first | exact Has.here | apply Has.there | (apply Has.swap; repeat (first | exact HasR.here | apply HasR.there)))) rfl (by rfl) rfl rfl ?_
    conv => whnf
    refine ⟨hp.fr, ?_⟩
    rw [hread, if_pos rfl]
    rfl
  | true =>
    rw [if_neg (by decide)] at hread
    obtain ⟨h39, hall⟩ := hokk rfl
    repeat (first | (refine Br.yes (by first | with_reducible rfl | with_reducible exact beq_self_eq_true _ | rfl) ?_; conv => whnf) | (refine Br.no (by first | with_reducible rfl | with_reducible exact bne_self_eq_false _ | rfl) ?_; conv => whnf))
    refine Sm.seqW ?_
    conv => whnf
    refine hp.call (lOf_spec hp.wf (a := 0) (by decide)) ?_
    clear hp
    rintro _ s rfl hp _
    conv => whnf
    refine hp.alloc (cs := C2 0 0) (e := 1) rfl rfl rfl rfl rfl ?_
    clear hp
    intro p9 s hp _
    conv => whnf
    refine hp.storeW (vs := C2 (0 % w64) (0 / w64)) rfl (by repeat (first | exact Rm.here | apply Rm.there)) (by first | exact C2_same _ _ _ _ | exact C4_same _ _ _ _ _ _ _ _ | exact Dc_same _ _ | rfl) rfl rfl rfl ?_
    clear hp
    intro s hp _
    conv => whnf
    refine Sm.live [2, 5, 6, 7, 9, 10] ?_
    conv => whnf
    refine Sm.seq ?_
    refine Sm.seqW ?_
    conv => whnf
    refine Om.of _ (str_add ⟨W.toArray⟩ ⟨R.toArray⟩ (by rw [bs_mk, bs_mk]; simp at h39; omega)) ?_
    conv => whnf
    have e0 : bs ⟨(bs ⟨W.toArray⟩ ++ bs ⟨R.toArray⟩).toArray⟩ = W ++ R := rfl
    refine hp.bytesOf Tryd.underlying9 Tryd.underlying28 Tryd.underlying5 ⟨(bs ⟨W.toArray⟩ ++ bs ⟨R.toArray⟩).toArray⟩ ?_
    clear hp
    intro pb s hp _
    rw [e0] at hp ⊢
    generalize hWR : W ++ R = Y at *
    conv => whnf
    refine Sm.block ?_
    refine Sm.loop ?_
    refine Lp.ofS (α := Nat × Nat × Bool) (fun x => [(2, .pointer (some ⟨p2, 0, none⟩)), (5, .bool ng), (7, sv R), (9, .pointer (some ⟨p9, 0, none⟩)), (10, .bool x.2.2), (43, .slice (some ⟨pb, 0, none⟩) Y.length Y.length), (44, .int .i64 (Y.length : Int)), (45, .int .i64 (x.1 : Int))])
      (fun x s' => x.1 ≤ Y.length ∧ RdOk Y x.1 x.2.1 x.2.2 ∧ Hp (fun _ => False) z [] [blkA pb pb (byteVals Y) 1, blkA p9 p9 (C2 (x.2.1 % w64) (x.2.1 / w64)) 1, blkA p2 p2 Dc.zero.cells 4] s') (fun x => Y.length - x.1) ?_ (0, 0, false) (subK_ok (by refine ⟨rfl, rfl, rfl, rfl, rfl, rfl, rfl, rfl, trivial⟩)) ⟨Nat.zero_le _, ⟨by decide, by simp [valD], fun _ => by simp [valD]⟩, hp⟩
    clear hp
    rintro ⟨i, c, ov⟩ s ⟨hi, ok, hp⟩
    simp only at hi ok hp
    refine Sm.seqW ?_
    conv => whnf
    refine Sm.seq ?_
    refine Sm.ofW ?_
    conv => whnf
    refine Br.mk (fun hc => ?_) (fun hc => ?_)
    · have hc : i < Y.length := by have h : (i : Int) < (Y.length : Int) := of_decide_eq_true hc; omega
      obtain ⟨d1, d2⟩ := isD_d (hall Y[i] (List.getElem_mem hc))
      have htake : Y.take (i + 1) = Y.take i ++ [Y[i]] := List.take_succ_eq_append_getElem hc
      have hval : valD (Y.take (i + 1)) = 10 * valD (Y.take i) + (Y[i].toNat - 48) := by rw [htake, valD_snoc]
      have c30 := ok.c30
      conv => whnf
      refine Sm.seq ?_
      refine Sm.block ?_
      refine Sm.seqW ?_
      conv => whnf
      have hix := idx_at (P := Tryd.prog) BD (b := pb) (off := 0) (c := Y.length) .i64 hc
      refine Om.of _ (hix) ?_
      conv => whnf
      refine hp.load (v := .int .u8 ((Y[i].toNat : Nat) : Int)) (by repeat (first | exact Has.here | apply Has.there | (apply Has.swap; repeat (first | exact HasR.here | apply HasR.there)))) (by rw [Nat.zero_add, Nat.mul_one]; simp [byteVals, hc]) rfl rfl rfl ?_
      conv => whnf
      refine Sm.live [2, 5, 7, 9, 10, 12, 43, 44, 45] ?_
      conv => whnf
      refine Sm.seqW ?_
      conv => whnf
      refine ⟨[0, 0, 3, 7, 15, 31, 31, 0, 191, 511], by decide +kernel, by decide +kernel, ?_⟩
      conv => whnf
      refine hp.loadA (l := C2 (c % w64) (c / w64)) (by repeat (first | exact Has.here | apply Has.there | (apply Has.swap; repeat (first | exact HasR.here | apply HasR.there)))) rfl (by rfl) rfl rfl ?_
      conv => whnf
      refine hp.rst.call (lOf_spec hp.rst.wf (a := 10) (by decide)) ?_
      rintro _ s1 rfl h1 k1
      conv => whnf
      refine hp.dkN h1 k1 ?_
      clear hp h1 k1
      intro s hp
      conv => whnf
      refine hp.rst.call (lMul_spec hp.rst.wf (a := c) (b := 10) (Nat.lt_trans c30 (by decide)) (by decide)) ?_
      rintro _ s1 rfl h1 k1
      conv => whnf
      refine hp.dkN h1 k1 ?_
      clear hp h1 k1
      intro s hp
      conv => whnf
      have hcm : c * 10 < w128 := Nat.lt_of_lt_of_le ((Nat.mul_lt_mul_right (by decide)).2 c30) (by decide)
      refine hp.rst.call (lShort_ok hp.rst.wf hcm) ?_
      rintro _ s1 rfl h1 k1
      conv => whnf
      refine hp.dkN h1 k1 ?_
      clear hp h1 k1
      intro s hp
      conv => whnf
      refine hp.rst.alloc (cs := C2 0 0) (e := 1) rfl rfl rfl rfl rfl ?_
      intro p13 s1 h1 k1
      conv => whnf
      refine hp.dkN h1 k1 ?_
      clear hp h1 k1
      intro s hp
      conv => whnf
      refine hp.rst.storeW (vs := C2 (c * 10 % w64) (c * 10 / w64)) rfl (by repeat (first | exact Rm.here | apply Rm.there)) (by first | exact C2_same _ _ _ _ | exact C4_same _ _ _ _ _ _ _ _ | exact Dc_same _ _ | rfl) rfl rfl rfl ?_
      intro s1 h1 l1
      conv => whnf
      refine hp.dkW h1 l1 ?_
      clear hp h1 l1
      intro s hp
      conv => whnf
      refine Sm.live [2, 5, 7, 9, 10, 12, 13, 14, 43, 44, 45] ?_
      conv => whnf
      refine Sm.seqW ?_
      conv => whnf
      refine ⟨[0, 0, 2, 6, 14, 31, 63, 127, 127, 255, 1023], by decide +kernel, by decide +kernel, ?_⟩
      conv => whnf
      refine hp.loadA (l := C2 (c * 10 % w64) (c * 10 / w64)) (by repeat (first | exact Has.here | apply Has.there | (apply Has.swap; repeat (first | exact HasR.here | apply HasR.there)))) rfl (by rfl) rfl rfl ?_
      conv => whnf
      have ed : IntKind.u64.wrap (IntKind.u8.wrap (((Y[i].toNat : Nat) : Int) - 48)) = ((Y[i].toNat - 48 : Nat) : Int) := by rw [wrap_u8i, wrap_u64i]; omega
      obtain ⟨d, hd⟩ : ∃ d, d = Y[i].toNat - 48 := ⟨_, rfl⟩
      have hd9 : d ≤ 9 := by omega
      rw [← hd] at hval ed
      rw [ed]
      refine hp.rst.call (lOf_spec hp.rst.wf (a := d) (by simp only [w64]; omega)) ?_
      rintro _ s1 rfl h1 k1
      conv => whnf
      refine hp.dkN h1 k1 ?_
      clear hp h1 k1
      intro s hp
      conv => whnf
      have hdw : d < w128 := by simp only [w128]; omega
      have hsum : c * 10 + d < w128 := by simp only [w128]; omega
      refine hp.rst.call (lAdd_ok hp.rst.wf hcm hdw hsum) ?_
      rintro _ s1 rfl h1 k1
      conv => whnf
      refine hp.dkN h1 k1 ?_
      clear hp h1 k1
      intro s hp
      conv => whnf
      refine hp.rst.storeW (vs := C2 ((c * 10 + d) % w64) ((c * 10 + d) / w64)) rfl (by repeat (first | exact Rm.here | apply Rm.there)) (by first | exact C2_same _ _ _ _ | exact C4_same _ _ _ _ _ _ _ _ | exact Dc_same _ _ | rfl) rfl rfl rfl ?_
      intro s1 h1 l1
      conv => whnf
      refine hp.dkW h1 l1 ?_
      clear hp h1 l1
      intro s hp
      conv => whnf
      refine Sm.live [2, 5, 7, 9, 10, 13, 14, 15, 43, 44, 45] ?_
      conv => whnf
      have ov2 : ov = true → 10 ^ 30 ≤ valD (Y.take (i + 1)) := fun h => by
        have := ok.ov
        rw [h] at this
        have := of_decide_eq_true this.symm
        rw [hval]; omega
      have nov : ov = false → valD (Y.take (i + 1)) = c * 10 + d := fun h => by rw [hval, ← ok.val h]; omega
      obtain ⟨ov', hov'⟩ : ∃ o, o = decide (10 ^ 30 ≤ valD (Y.take (i + 1))) := ⟨_, rfl⟩
      obtain ⟨c', hc'⟩ : ∃ c', c' = if ov' = true then c else c * 10 + d := ⟨_, rfl⟩
      have ok2 : RdOk Y (i + 1) c' ov' := by
        refine ⟨?_, hov', fun h => ?_⟩
        · rw [hc']
          split
          · exact c30
          · rename_i g
            have g' : ov' = false := by simpa using g
            have h1 : ¬ 10 ^ 30 ≤ valD (Y.take (i + 1)) := by rw [g'] at hov'; exact of_decide_eq_false hov'.symm
            cases hov : ov with
            | true => exact absurd (ov2 hov) h1
            | false => rw [← nov hov]; omega
        · rw [hc', h, if_neg (by decide)]
          have h1 : ¬ 10 ^ 30 ≤ valD (Y.take (i + 1)) := by rw [h] at hov'; exact of_decide_eq_false hov'.symm
          cases hov : ov with
          | true => exact absurd (ov2 hov) h1
          | false => exact (nov hov).symm
      have ei : IntKind.i64.wrap ((i : Int) + 1) = ((i + 1 : Nat) : Int) := by rw [wi64 (by omega) (by omega)]; push_cast; rfl
      refine Sm.seqC (fun e L' s' => e = .normal ∧ Hp (fun _ => False) z [] [blkA pb pb (byteVals Y) 1, blkA p13 p13 (C2 ((c * 10 + d) % w64) ((c * 10 + d) / w64)) 1, blkA p9 p9 (C2 (c % w64) (c / w64)) 1, blkA p2 p2 Dc.zero.cells 4] s' ∧ Sub [(2, .pointer (some ⟨p2, 0, none⟩)), (5, .bool ng), (7, sv R), (9, .pointer (some ⟨p9, 0, none⟩)), (10, .bool ov'), (13, .pointer (some ⟨p13, 0, none⟩)), (43, .slice (some ⟨pb, 0, none⟩) Y.length Y.length), (44, .int .i64 (Y.length : Int)), (45, .int .i64 (i : Int))] L') ?_ ?_
      · conv => whnf
        cases hov : ov with
        | true =>
          have : ov' = true := by rw [hov']; exact decide_eq_true (ov2 hov)
          rw [this]
          repeat (first | (refine Br.yes (by first | with_reducible rfl | with_reducible exact beq_self_eq_true _ | rfl) ?_; conv => whnf) | (refine Br.no (by first | with_reducible rfl | with_reducible exact bne_self_eq_false _ | rfl) ?_; conv => whnf))
          exact ⟨rfl, hp.pik (by repeat (first | exact Pik.nil | exact Pik.refl _ | exact Rm.here | apply Rm.there | apply Pik.cons | apply Pik.skip)), subK_ok ⟨rfl, rfl, rfl, rfl, rfl, rfl, rfl, rfl, rfl, trivial⟩⟩
        | false =>
          repeat (first | (refine Br.yes (by first | with_reducible rfl | with_reducible exact beq_self_eq_true _ | rfl) ?_; conv => whnf) | (refine Br.no (by first | with_reducible rfl | with_reducible exact bne_self_eq_false _ | rfl) ?_; conv => whnf))
          refine hp.loadA (l := C2 ((c * 10 + d) % w64) ((c * 10 + d) / w64)) (by repeat (first | exact Has.here | apply Has.there | (apply Has.swap; repeat (first | exact HasR.here | apply HasR.there)))) rfl (by rfl) rfl rfl ?_
          conv => whnf
          repeat (first | (refine Br.yes (by first | with_reducible rfl | with_reducible exact beq_self_eq_true _ | rfl) ?_; conv => whnf) | (refine Br.no (by first | with_reducible rfl | with_reducible exact bne_self_eq_false _ | rfl) ?_; conv => whnf))
          refine hp.call (small_spec hp.wf hsum) ?_
          clear hp
          rintro _ s rfl hp _
          conv => whnf
          repeat (first | (refine Br.yes (by first | with_reducible rfl | with_reducible exact beq_self_eq_true _ | rfl) ?_; conv => whnf) | (refine Br.no (by first | with_reducible rfl | with_reducible exact bne_self_eq_false _ | rfl) ?_; conv => whnf))
          have : ov' = !decide (c * 10 + d < 10 ^ 30) := by
            rw [hov', nov hov]
            by_cases g : c * 10 + d < 10 ^ 30
            · rw [decide_eq_true g, decide_eq_false (by omega)]; rfl
            · rw [decide_eq_false g, decide_eq_true (by omega)]; rfl
          rw [this]
          exact ⟨rfl, hp.pik (by repeat (first | exact Pik.nil | exact Pik.refl _ | exact Rm.here | apply Rm.there | apply Pik.cons | apply Pik.skip)), subK_ok ⟨rfl, rfl, rfl, rfl, rfl, rfl, rfl, rfl, rfl, trivial⟩⟩
      clear hp
      rintro e L' s ⟨rfl, hp, hs⟩
      refine Sm.weak _ hs ?_
      clear hs
      refine Sm.seqW ?_
      conv => whnf
      refine Sm.ofW ?_
      conv => whnf
      cases hv : ov' with
      | true =>
        rw [hv] at hc' ok2
        rw [if_pos rfl] at hc'
        subst hc'
        repeat (first | (refine Br.yes (by first | with_reducible rfl | with_reducible exact beq_self_eq_true _ | rfl) ?_; conv => whnf) | (refine Br.no (by first | with_reducible rfl | with_reducible exact bne_self_eq_false _ | rfl) ?_; conv => whnf))
        refine Sm.ofW ?_
        conv => whnf
        exact ⟨(i + 1, c', true), by (show Y.length - (i + 1) < Y.length - i); omega, subK_ok (by refine ⟨rfl, rfl, rfl, rfl, rfl, rfl, rfl, congrArg (fun x => some (Value.int .i64 x)) ei, trivial⟩), (by (show i + 1 ≤ Y.length); omega), ok2, hp.pik (by repeat (first | exact Pik.nil | exact Pik.refl _ | exact Rm.here | apply Rm.there | apply Pik.cons | apply Pik.skip))⟩
      | false =>
        rw [hv] at hc' ok2
        rw [if_neg (by decide)] at hc'
        repeat (first | (refine Br.yes (by first | with_reducible rfl | with_reducible exact beq_self_eq_true _ | rfl) ?_; conv => whnf) | (refine Br.no (by first | with_reducible rfl | with_reducible exact bne_self_eq_false _ | rfl) ?_; conv => whnf))
        refine hp.loadA (l := C2 ((c * 10 + d) % w64) ((c * 10 + d) / w64)) (by repeat (first | exact Has.here | apply Has.there | (apply Has.swap; repeat (first | exact HasR.here | apply HasR.there)))) rfl (by rfl) rfl rfl ?_
        conv => whnf
        refine hp.storeW (vs := C2 ((c * 10 + d) % w64) ((c * 10 + d) / w64)) rfl (by repeat (first | exact Rm.here | apply Rm.there)) (by first | exact C2_same _ _ _ _ | exact C4_same _ _ _ _ _ _ _ _ | exact Dc_same _ _ | rfl) rfl rfl rfl ?_
        clear hp
        intro s hp _
        conv => whnf
        rw [← hc'] at hp
        refine Sm.ofW ?_
        conv => whnf
        exact ⟨(i + 1, c', false), by (show Y.length - (i + 1) < Y.length - i); omega, subK_ok (by refine ⟨rfl, rfl, rfl, rfl, rfl, rfl, rfl, congrArg (fun x => some (Value.int .i64 x)) ei, trivial⟩), (by (show i + 1 ≤ Y.length); omega), ok2, hp.pik (by repeat (first | exact Pik.nil | exact Pik.refl _ | exact Rm.here | apply Rm.there | apply Pik.cons | apply Pik.skip))⟩
    · have hc : ¬ i < Y.length := by have h : ¬ (i : Int) < (Y.length : Int) := of_decide_eq_false hc; omega
      obtain rfl : i = Y.length := by omega
      have hov := ok.ov
      have hv := ok.val
      rw [List.take_length] at hov hv
      have c30 := ok.c30
      have cw : c < w128 := Nat.lt_trans c30 (by decide)
      conv => whnf
      refine Sm.seq ?_
      refine Sm.block ?_
      refine Sm.seqW ?_
      conv => whnf
      refine Sm.ofW ?_
      conv => whnf
      cases hovc : ov with
      | true =>
        rw [hovc] at hov
        rw [if_pos (of_decide_eq_true hov.symm)] at hread
        repeat (first | (refine Br.yes (by first | with_reducible rfl | with_reducible exact beq_self_eq_true _ | rfl) ?_; conv => whnf) | (refine Br.no (by first | with_reducible rfl | with_reducible exact bne_self_eq_false _ | rfl) ?_; conv => whnf))
        refine hp.storeW (vs := Dc.zero.cells) rfl (by repeat (first | exact Rm.here | apply Rm.there)) (by first | exact C2_same _ _ _ _ | exact C4_same _ _ _ _ _ _ _ _ | exact Dc_same _ _ | rfl) rfl rfl rfl ?_
        clear hp
        intro s hp _
        conv => whnf
        refine hp.loadA (l := Dc.zero.cells) (by repeat (first | exact Has.here | apply Has.there | (apply Has.swap; repeat (first | exact HasR.here | apply HasR.there)))) rfl (by rfl) rfl rfl ?_
        conv => whnf
        refine ⟨hp.fr, ?_⟩
        rw [hread]; rfl
      | false =>
        rw [hovc] at hov
        rw [if_neg (of_decide_eq_false hov.symm)] at hread
        have hv := hv hovc
        rw [← hv] at hread
        cases ng with
        | false =>
          repeat (first | (refine Br.yes (by first | with_reducible rfl | with_reducible exact beq_self_eq_true _ | rfl) ?_; conv => whnf) | (refine Br.no (by first | with_reducible rfl | with_reducible exact bne_self_eq_false _ | rfl) ?_; conv => whnf))
          refine Sm.seqW ?_
          conv => whnf
          refine hp.loadA (l := C2 (c % w64) (c / w64)) (by repeat (first | exact Has.here | apply Has.there | (apply Has.swap; repeat (first | exact HasR.here | apply HasR.there)))) rfl (by rfl) rfl rfl ?_
          conv => whnf
          refine hp.storeW (vs := (Dc.mk false c (R.length : Int)).cells) rfl (by repeat (first | exact Rm.here | apply Rm.there)) (by first | exact C2_same _ _ _ _ | exact C4_same _ _ _ _ _ _ _ _ | exact Dc_same _ _ | rfl) rfl rfl rfl ?_
          clear hp
          intro s hp _
          conv => whnf
          refine Sm.ofW ?_
          conv => whnf
          refine hp.loadA (l := (Dc.mk false c (R.length : Int)).cells) (by repeat (first | exact Has.here | apply Has.there | (apply Has.swap; repeat (first | exact HasR.here | apply HasR.there)))) rfl (by rfl) rfl rfl ?_
          conv => whnf
          refine ⟨hp.fr, ?_⟩
          rw [hread]; rfl
        | true =>
          repeat (first | (refine Br.yes (by first | with_reducible rfl | with_reducible exact beq_self_eq_true _ | rfl) ?_; conv => whnf) | (refine Br.no (by first | with_reducible rfl | with_reducible exact bne_self_eq_false _ | rfl) ?_; conv => whnf))
          refine hp.loadA (l := C2 (c % w64) (c / w64)) (by repeat (first | exact Has.here | apply Has.there | (apply Has.swap; repeat (first | exact HasR.here | apply HasR.there)))) rfl (by rfl) rfl rfl ?_
          conv => whnf
          repeat (first | (refine Br.yes (by first | with_reducible rfl | with_reducible exact beq_self_eq_true _ | rfl) ?_; conv => whnf) | (refine Br.no (by first | with_reducible rfl | with_reducible exact bne_self_eq_false _ | rfl) ?_; conv => whnf))
          refine hp.call (nought_spec hp.wf c) ?_
          clear hp
          rintro _ s rfl hp _
          conv => whnf
          by_cases h0 : c = 0
          · rw [decide_eq_true h0]
            repeat (first | (refine Br.yes (by first | with_reducible rfl | with_reducible exact beq_self_eq_true _ | rfl) ?_; conv => whnf) | (refine Br.no (by first | with_reducible rfl | with_reducible exact bne_self_eq_false _ | rfl) ?_; conv => whnf))
            refine hp.storeW (vs := Dc.zero.cells) rfl (by repeat (first | exact Rm.here | apply Rm.there)) (by first | exact C2_same _ _ _ _ | exact C4_same _ _ _ _ _ _ _ _ | exact Dc_same _ _ | rfl) rfl rfl rfl ?_
            clear hp
            intro s hp _
            conv => whnf
            refine hp.loadA (l := Dc.zero.cells) (by repeat (first | exact Has.here | apply Has.there | (apply Has.swap; repeat (first | exact HasR.here | apply HasR.there)))) rfl (by rfl) rfl rfl ?_
            conv => whnf
            refine ⟨hp.fr, ?_⟩
            rw [hread, decide_eq_true h0]; rfl
          · rw [decide_eq_false h0]
            repeat (first | (refine Br.yes (by first | with_reducible rfl | with_reducible exact beq_self_eq_true _ | rfl) ?_; conv => whnf) | (refine Br.no (by first | with_reducible rfl | with_reducible exact bne_self_eq_false _ | rfl) ?_; conv => whnf))
            refine Sm.seqW ?_
            conv => whnf
            refine hp.loadA (l := C2 (c % w64) (c / w64)) (by repeat (first | exact Has.here | apply Has.there | (apply Has.swap; repeat (first | exact HasR.here | apply HasR.there)))) rfl (by rfl) rfl rfl ?_
            conv => whnf
            refine hp.storeW (vs := (Dc.mk true c (R.length : Int)).cells) rfl (by repeat (first | exact Rm.here | apply Rm.there)) (by first | exact C2_same _ _ _ _ | exact C4_same _ _ _ _ _ _ _ _ | exact Dc_same _ _ | rfl) rfl rfl rfl ?_
            clear hp
            intro s hp _
            conv => whnf
            refine Sm.ofW ?_
            conv => whnf
            refine hp.loadA (l := (Dc.mk true c (R.length : Int)).cells) (by repeat (first | exact Has.here | apply Has.there | (apply Has.swap; repeat (first | exact HasR.here | apply HasR.there)))) rfl (by rfl) rfl rfl ?_
            conv => whnf
            refine ⟨hp.fr, ?_⟩
            rw [hread, decide_eq_false h0]; rfl
end Go.Ev
end

/- limb.Bits; pieces of an array. No condition. -/
noncomputable section
namespace Go.Ev
open Go.Proofs
variable [Lk]
set_option linter.unusedSectionVars false
set_option linter.unusedVariables false
set_option maxRecDepth 100000

theorem slice_arr {P : Program} {t n e : Nat} (hu : P.underlying t = some (.array n e)) {j : TypeInfo} (hin : P.info? e = some j) (hj : j.size = 1) {s : St} {k b : Nat} {l : List UInt8} (hb : Blk s k b (byteVals l) 1) (hn : l.length = n) (hn0 : 0 < n)
    {lo hi : Option Nat} (h1 : lo.getD 0 ≤ hi.getD n) (h2 : hi.getD n ≤ n) :
    ∃ v, evSliceMem P t (.pointer (some ⟨b, 0, none⟩)) (bndV .i64 lo) (bndV .i64 hi) none s = some v ∧ Sb s (some k) v ((l.drop (lo.getD 0)).take (hi.getD n - lo.getD 0)) := by
  have hbd : bnds n n (bndV .i64 lo) (bndV .i64 hi) none = some (lo.getD 0, hi.getD n, n) := by
    unfold bnds
    cases lo <;> cases hi <;> simp only [bndV, Option.getD_none, Option.getD_some] at h1 h2 ⊢
    · rw [bnd_nat h2]
    · rw [bnd_nat h1]
    · rw [bnd_nat h2]; simp only; rw [bnd_nat h1]
  refine ⟨.slice (some ⟨b, lo.getD 0, none⟩) (hi.getD n - lo.getD 0) (n - lo.getD 0), ?_, ?_⟩
  · obtain ⟨base, fl, g1, g2, g3⟩ := hb.ex
    have e1 := hb.esz
    have e2 := hb.rd
    unfold evSliceMem
    rw [hu]
    simp only [hin, e1, e2, hj, Nat.beq_refl, Nat.mul_one, blt_of hn0, byteVals_length, Nat.zero_add, hn, Nat.ble_eq_true_of_le (Nat.le_refl n), g1, hbd]
  · have hlen : ((l.drop (lo.getD 0)).take (hi.getD n - lo.getD 0)).length = hi.getD n - lo.getD 0 := by simp; omega
    have hv : byteVals ((l.drop (lo.getD 0)).take (hi.getD n - lo.getD 0)) = ((byteVals l).drop (lo.getD 0)).take (hi.getD n - lo.getD 0) := by simp [byteVals, List.map_take, List.map_drop]
    refine ⟨.inr ⟨b, lo.getD 0, n - lo.getD 0, byteVals l, by rw [hlen], by rw [hlen]; omega, by rw [byteVals_length, Nat.mul_one], ?_, .inl ⟨k, rfl, hb⟩⟩⟩
    rw [hv, hlen, Nat.mul_one]
    unfold sl
    simp only
    have : (((byteVals l).drop (lo.getD 0)).take (hi.getD n - lo.getD 0)).length = hi.getD n - lo.getD 0 := by rw [← hv, byteVals_length, hlen]
    rw [this, Nat.beq_refl]
end Go.Ev
end

/- dec.Print walked. No condition. -/
noncomputable section
namespace Go.Ev
open Go.Proofs
variable [Lk]
set_option linter.unusedSectionVars false
set_option linter.unusedVariables false
set_option maxRecDepth 100000

/-- The k-th figure of a number, from the right. -/
def dch (c k : Nat) : UInt8 := UInt8.ofNat (48 + c / 10 ^ k % 10)
/-- So many figures, the lowest first. -/
def pl (c n : Nat) : List UInt8 := (List.range n).map (dch c)
theorem pl_succ (c n : Nat) : pl c (n + 1) = pl c n ++ [dch c n] := by simp [pl, List.range_succ]
theorem pl_len (c n : Nat) : (pl c n).length = n := by simp [pl]
/-- How many figures are printed. -/
def np (c sc : Nat) : Nat := max (sc + 1) (dg c).length
theorem dg_more {c i : Nat} : i < (dg c).length ↔ 0 < c / 10 ^ i := by
  have h := (dg_dl c).small i
  rw [Vd_dg] at h
  have hp := p10 i
  constructor
  · intro g
    have : ¬ c < 10 ^ i := fun k => by have := h.1 k; omega
    exact Nat.div_pos (by omega) hp
  · intro g
    rcases Nat.lt_or_ge i (dg c).length with k | k
    · exact k
    · have := h.2 k
      rw [Nat.div_eq_of_lt this] at g; exact absurd g (by decide)
theorem np_more {c sc i : Nat} : i < np c sc ↔ i ≤ sc ∨ 0 < c / 10 ^ i := by
  unfold np
  rw [← dg_more]; omega
theorem np_le {c sc : Nat} (hc : c < 10 ^ 30) (hs : sc ≤ 9) : np c sc ≤ 30 := by
  have := dg_len 30 c hc
  unfold np; omega
def printF (d : Dc) : List UInt8 :=
  if d.right = false then [] else
  (if d.neg = true then [45] else []) ++ ((pl d.c (np d.c d.scale.toNat)).reverse.take (np d.c d.scale.toNat - d.scale.toNat) ++
    (if 0 < d.scale then [46] ++ (pl d.c (np d.c d.scale.toNat)).reverse.drop (np d.c d.scale.toNat - d.scale.toNat) else []))
/-- What stands in the field of figures when i are there. -/
def fieldL (c i : Nat) : List UInt8 := List.replicate (31 - i) 0 ++ (pl c i).reverse
theorem fieldL_len {c i : Nat} (h : i ≤ 31) : (fieldL c i).length = 31 := by simp [fieldL, pl_len]; omega
theorem fieldL_set {c i : Nat} (h : i < 31) : (fieldL c i).set (30 - i) (dch c i) = fieldL c (i + 1) := by
  unfold fieldL
  rw [pl_succ, List.reverse_append, show 31 - i = (30 - i) + 1 by omega, List.replicate_succ', List.append_assoc, show 31 - (i + 1) = 30 - i by omega]
  rw [List.set_append_right _ _ (by simp)]
  simp
theorem figs_dch : ∀ j, (h : j < 10) → figs[j]'h = UInt8.ofNat (48 + j) := by decide +kernel
theorem field_whole {c n k : Nat} (hn : n ≤ 31) (hk : k ≤ n) : ((fieldL c n).drop (31 - n)).take (31 - k - (31 - n)) = (pl c n).reverse.take (n - k) := by
  unfold fieldL
  rw [List.drop_left' (by simp), show 31 - k - (31 - n) = n - k by omega]
theorem field_rest {c n k : Nat} (hn : n ≤ 31) (hk : k ≤ n) : ((fieldL c n).drop (31 - k)).take (31 - (31 - k)) = (pl c n).reverse.drop (n - k) := by
  have h1 : (fieldL c n).drop (31 - k) = (pl c n).reverse.drop (n - k) := by
    unfold fieldL
    rw [List.drop_append, List.drop_eq_nil_of_le (by simp; omega), List.nil_append, List.length_replicate, show 31 - k - (31 - n) = n - k by omega]
  rw [h1, List.take_of_length_le (by simp [pl_len]; omega)]
end Go.Ev
end

/- Chapter 2's example; the order of decimals at one scale. No condition. -/
noncomputable section
namespace Go.Ev
open Go.Proofs
variable [Lk]
set_option linter.unusedSectionVars false
set_option linter.unusedVariables false
set_option maxRecDepth 100000

theorem rk2 : readF [45, 49, 50, 46, 53, 48] = okD ⟨true, 1250, 2⟩ := by
  unfold readF
  have e1 : readOk (bodyF [45, 49, 50, 46, 53, 48]) = true := by decide +kernel
  have e2 : valD (wholeF (bodyF [45, 49, 50, 46, 53, 48]) ++ restF (bodyF [45, 49, 50, 46, 53, 48])) = 1250 := by decide +kernel
  have e3 : hasP [45, 49, 50, 46, 53, 48] [45] = true := by decide +kernel
  have e4 : (restF (bodyF [45, 49, 50, 46, 53, 48])).length = 2 := by decide +kernel
  rw [e1, e2, e3, e4, if_neg (by decide), if_neg (by decide), if_neg (by decide)]
  rfl
theorem pk2 : printF ⟨true, 1250, 2⟩ = [45, 49, 50, 46, 53, 48] := by
  unfold printF
  have e1 : (Dc.mk true 1250 2).right = true := by decide +kernel
  have e2 : np 1250 2 = 4 := by
    unfold np
    have : (dg 1250).length = 4 := by simp [dg]
    rw [this]; rfl
  rw [e1, if_neg (by decide)]
  show (if true = true then [45] else []) ++ ((pl 1250 (np 1250 2)).reverse.take (np 1250 2 - 2) ++ (if (0 : Int) < 2 then [46] ++ (pl 1250 (np 1250 2)).reverse.drop (np 1250 2 - 2) else [])) = _
  rw [e2]
  decide +kernel
theorem cmpZ_mul {x y : Int} {k : Nat} (hk : 0 < k) : cmpZ (x * (k : Int)) (y * (k : Int)) = cmpZ x y := by
  have h1 : x * (k : Int) < y * (k : Int) ↔ x < y := Int.mul_lt_mul_right (by omega)
  have h2 : x * (k : Int) = y * (k : Int) ↔ x = y := ⟨fun h => Int.eq_of_mul_eq_mul_right (by omega) h, fun h => by rw [h]⟩
  unfold cmpZ
  simp only [h1, h2]
/-- A decimal's value, in units of the ninth place. -/
def u9 (x S : Int) : Int := x * 10 ^ (9 - S).toNat
theorem u9_up {x S M : Int} (h1 : S ≤ M) (h2 : M ≤ 9) : x * 10 ^ (M - S).toNat * 10 ^ (9 - M).toNat = u9 x S := by
  unfold u9
  rw [Int.mul_assoc, ← Int.pow_add, show (M - S).toNat + (9 - M).toNat = (9 - S).toNat by omega]
theorem cmpF_9 {x y S T : Int} (hx : x.natAbs < 10 ^ 30) (hy : y.natAbs < 10 ^ 30) (s1 : 0 ≤ S) (s2 : S ≤ 9) (t1 : 0 ≤ T) (t2 : T ≤ 9) : cmpF (mkD x S) (mkD y T) = cmpZ (u9 x S) (u9 y T) := by
  rw [cmpF_mkD hx hy s1 s2 t1 t2, ← u9_up (x := x) (S := S) (M := max S T) (by omega) (by omega), ← u9_up (x := y) (S := T) (M := max S T) (by omega) (by omega), p10i (9 - max S T).toNat, cmpZ_mul (p10 _)]
theorem cmpZ_cases (x y : Int) : (x < y ∧ cmpZ x y = -1) ∨ (x = y ∧ cmpZ x y = 0) ∨ (y < x ∧ cmpZ x y = 1) := by
  unfold cmpZ
  by_cases h : x < y
  · rw [if_pos h]; exact .inl ⟨h, rfl⟩
  · rw [if_neg h]
    by_cases g : x = y
    · rw [if_pos g]; exact .inr (.inl ⟨g, rfl⟩)
    · rw [if_neg g]; exact .inr (.inr ⟨by omega, rfl⟩)
theorem u9_neg (x S : Int) : u9 (-x) S = -u9 x S := Int.neg_mul _ _
theorem abs_le {a : Int} {n : Nat} (h : a.natAbs ≤ n) : -(n : Int) ≤ a ∧ a ≤ n := by omega
theorem lt_abs {a : Int} {n : Nat} (h : -(n : Int) < a ∧ a < n) : a.natAbs < n := by omega
theorem le_abs {a : Int} {n : Nat} (h : -(n : Int) ≤ a ∧ a ≤ n) : a.natAbs ≤ n := by omega
theorem mul_b {a c : Int} {m n : Nat} (h : a.natAbs ≤ m) (hk : c.natAbs ≤ n) : (a * c).natAbs ≤ m * n := by
  rw [Int.natAbs_mul]; exact Nat.mul_le_mul h hk
theorem p10_b {k n : Nat} (h : k ≤ n) : ((10 : Int) ^ k).natAbs ≤ 10 ^ n := by
  rw [p10i, Int.natAbs_natCast]; exact pow_le10 h
theorem add_b {a c : Int} {m n : Nat} (h : a.natAbs ≤ m) (hk : c.natAbs ≤ n) : (a + c).natAbs ≤ m + n := by omega
theorem sub_b {a c : Int} {m n : Nat} (h : a.natAbs ≤ m) (hk : c.natAbs ≤ n) : (a - c).natAbs ≤ m + n := by omega
end Go.Ev
end

/- What is printed of a decimal with more places. No condition. -/
noncomputable section
namespace Go.Ev
open Go.Proofs
variable [Lk]
set_option linter.unusedSectionVars false
set_option linter.unusedVariables false
set_option maxRecDepth 100000

theorem pow_div {c k j : Nat} : c * 10 ^ k / 10 ^ (k + j) = c / 10 ^ j := by
  rw [Nat.pow_add, ← Nat.div_div_eq_div_mul, Nat.mul_div_cancel _ (p10 _)]
theorem pow_mod {c k j : Nat} (h : j < k) : c * 10 ^ k / 10 ^ j % 10 = 0 := by
  obtain ⟨m, rfl⟩ : ∃ m, k = j + (m + 1) := ⟨k - j - 1, by omega⟩
  rw [Nat.pow_add, Nat.mul_comm (10 ^ j), ← Nat.mul_assoc, Nat.mul_div_cancel _ (p10 _), Nat.pow_succ, ← Nat.mul_assoc, Nat.mul_mod_left]
theorem pl_scale (c k n : Nat) : pl (c * 10 ^ k) (k + n) = List.replicate k 48 ++ pl c n := by
  refine List.ext_getElem (by simp [pl_len]) fun i h1 h2 => ?_
  rw [pl_len] at h1
  by_cases hi : i < k
  · rw [List.getElem_append_left (by simpa using hi)]
    simp only [pl, List.getElem_map, List.getElem_range, List.getElem_replicate, dch, pow_mod hi]
    rfl
  · rw [List.getElem_append_right (by simpa using hi)]
    simp only [pl, List.getElem_map, List.getElem_range, List.length_replicate, dch]
    have e : c * 10 ^ k / 10 ^ i = c / 10 ^ (i - k) := by
      have := pow_div (c := c) (k := k) (j := i - k)
      rw [show k + (i - k) = i by omega] at this
      exact this
    rw [e]
theorem dg_scale {c : Nat} (hc : c ≠ 0) (k : Nat) : (dg (c * 10 ^ k)).length = (dg c).length + k := by
  have h : ∀ i, i < (dg (c * 10 ^ k)).length ↔ i < (dg c).length + k := fun i => by
    rw [dg_more]
    by_cases hi : i < k
    · refine ⟨fun _ => by omega, fun _ => Nat.div_pos ?_ (p10 _)⟩
      have h1 : 10 ^ i ≤ 10 ^ k := pow_le10 (by omega)
      have h2 : 1 * 10 ^ k ≤ c * 10 ^ k := Nat.mul_le_mul_right _ (by omega)
      omega
    · have e : c * 10 ^ k / 10 ^ i = c / 10 ^ (i - k) := by
        have := pow_div (c := c) (k := k) (j := i - k)
        rw [show k + (i - k) = i by omega] at this
        exact this
      rw [e, ← dg_more]; omega
  have h1 := h (dg (c * 10 ^ k)).length
  have h2 := h ((dg c).length + k)
  omega
theorem np_scale (c k S : Nat) : np (c * 10 ^ k) (S + k) = np c S + k := by
  unfold np
  by_cases hc : c = 0
  · subst hc
    rw [Nat.zero_mul]
    have : dg 0 = [] := by rw [dg]; simp
    rw [this]; simp; omega
  · rw [dg_scale hc]; omega
theorem np_ge (c S : Nat) : S < np c S := by unfold np; omega
theorem print_scale {ng : Bool} {c S k : Nat} (h1 : (Dc.mk ng c (S : Int)).right = true) (h2 : (Dc.mk ng (c * 10 ^ k) ((S + k : Nat) : Int)).right = true) :
    printF ⟨ng, c * 10 ^ k, ((S + k : Nat) : Int)⟩ = printF ⟨ng, c, (S : Int)⟩ ++ (if S = 0 ∧ 0 < k then [46] else []) ++ List.replicate k 48 := by
  unfold printF
  rw [h1, h2, if_neg (by decide)]
  simp only [Int.toNat_natCast, np_scale]
  have hn := np_ge c S
  generalize np c S = n at *
  rw [Nat.add_comm n k, pl_scale, show k + n - (S + k) = n - S by omega, List.reverse_append, List.reverse_replicate]
  have e1 : ((pl c n).reverse ++ List.replicate k 48).take (n - S) = (pl c n).reverse.take (n - S) := by
    rw [List.take_append_of_le_length (by rw [List.length_reverse, pl_len]; omega)]
  have e2 : ((pl c n).reverse ++ List.replicate k 48).drop (n - S) = (pl c n).reverse.drop (n - S) ++ List.replicate k 48 := by
    rw [List.drop_append_of_le_length (by rw [List.length_reverse, pl_len]; omega)]
  rw [e1, e2]
  by_cases hS : S = 0
  · subst hS
    have e3 : (pl c n).reverse.drop (n - 0) = [] := List.drop_eq_nil_of_le (by rw [List.length_reverse, pl_len]; omega)
    rw [e3]
    by_cases hk : 0 < k
    · have c1 : (0 : Int) < ((0 + k : Nat) : Int) := by omega
      simp only [c1, if_true, hk, and_self]
      simp
    · obtain rfl : k = 0 := by omega
      simp
  · have c1 : (0 : Int) < ((S + k : Nat) : Int) := by omega
    have c2 : (0 : Int) < (S : Int) := by omega
    simp only [c1, c2, if_true, hS, false_and, if_false]
    simp
end Go.Ev
end

/- What is printed is read the same. No condition. -/
noncomputable section
namespace Go.Ev
open Go.Proofs
variable [Lk]
set_option linter.unusedSectionVars false
set_option linter.unusedVariables false
set_option maxRecDepth 100000

theorem print_len {d : Dc} (h : d.right = true) : (printF d).length ≤ 32 := by
  obtain ⟨a1, a2, a3⟩ := Dc.right_c h
  have hn := np_le a1 (show d.scale.toNat ≤ 9 by omega)
  unfold printF
  rw [h, if_neg (by decide)]
  have e1 : ((pl d.c (np d.c d.scale.toNat)).reverse.take (np d.c d.scale.toNat - d.scale.toNat)).length + ((pl d.c (np d.c d.scale.toNat)).reverse.drop (np d.c d.scale.toNat - d.scale.toNat)).length = np d.c d.scale.toNat := by
    rw [← List.length_append, List.take_append_drop, List.length_reverse, pl_len]
  generalize (pl d.c (np d.c d.scale.toNat)).reverse.take (np d.c d.scale.toNat - d.scale.toNat) = A at *
  generalize (pl d.c (np d.c d.scale.toNat)).reverse.drop (np d.c d.scale.toNat - d.scale.toNat) = B at *
  generalize np d.c d.scale.toNat = n at *
  split <;> split <;> simp <;> omega
theorem scaled_mkD {x S : Int} {T : Int} (hx : x.natAbs < 10 ^ 30) (s1 : 0 ≤ S) (h1 : S ≤ T) (h2 : T ≤ 9) : scaledF (mkD x S) T = mkI (x * 10 ^ (T - S).toNat) T := by
  have hr := mkD_right hx s1 (by omega)
  unfold scaledF
  rw [if_neg (by rw [hr]; simp; exact ⟨h1, h2⟩), dmade_mk]
  congr 1
  exact up_mkD x S T
theorem isD_iff {x : UInt8} : isD x = true ↔ 48 ≤ x.toNat ∧ x.toNat ≤ 57 := decide_eq_true_iff
theorem idxL_skip {c : Nat} : ∀ (W T : List UInt8) (i : Nat), (∀ x ∈ W, x.toNat ≠ c) → idxL c (W ++ T) i = idxL c T (i + W.length)
  | [], T, i, _ => rfl
  | x :: W, T, i, h => by
    show (match Nat.beq x.toNat c with | true => some i | false => idxL c (W ++ T) (i + 1)) = _
    have hx : Nat.beq x.toNat c = false := by
      have := h x (List.mem_cons_self ..)
      cases hb : Nat.beq x.toNat c with
      | false => rfl
      | true => exact absurd (Nat.eq_of_beq_eq_true hb) this
    rw [hx]
    show idxL c (W ++ T) (i + 1) = _
    rw [idxL_skip W T (i + 1) (fun y hy => h y (List.mem_cons_of_mem _ hy)), List.length_cons]
    congr 1; omega
theorem idxL_body {W R : List UInt8} (hW : ∀ x ∈ W, isD x = true) (pt : Bool) :
    idxL 46 (W ++ (if pt = true then [46] ++ R else [])) 0 = if pt = true then some W.length else none := by
  rw [idxL_skip W _ 0 (fun x hx => by have := isD_iff.1 (hW x hx); omega)]
  cases pt with
  | false => rfl
  | true => rw [if_pos rfl, if_pos rfl]; show some (0 + W.length) = _; rw [Nat.zero_add]
/-- A text of figures, with its parts. -/
def txt (ng : Bool) (W : List UInt8) (pt : Bool) (R : List UInt8) : List UInt8 := (if ng = true then [45] else []) ++ (W ++ (if pt = true then [46] ++ R else []))
theorem txt_hasP {ng pt : Bool} {W R : List UInt8} (h0 : W ≠ []) (hW : ∀ x ∈ W, isD x = true) : hasP (txt ng W pt R) [45] = ng := by
  cases ng with
  | true => rfl
  | false =>
    obtain ⟨w, W, rfl⟩ := List.exists_cons_of_ne_nil h0
    show (true && ([w] == [45])) = false
    have := isD_iff.1 (hW w (List.mem_cons_self ..))
    have hw : w ≠ 45 := fun e => by subst e; exact absurd this (by decide)
    simp [hw]
theorem txt_body {ng pt : Bool} {W R : List UInt8} (h0 : W ≠ []) (hW : ∀ x ∈ W, isD x = true) : bodyF (txt ng W pt R) = W ++ (if pt = true then [46] ++ R else []) := by
  unfold bodyF
  rw [txt_hasP h0 hW]
  cases ng <;> rfl
theorem txt_whole {pt : Bool} {W R : List UInt8} (hW : ∀ x ∈ W, isD x = true) : wholeF (W ++ (if pt = true then [46] ++ R else [])) = W := by
  unfold wholeF
  rw [idxL_body hW]
  cases pt with
  | false => simp
  | true => simp
theorem txt_rest {pt : Bool} {W R : List UInt8} (hW : ∀ x ∈ W, isD x = true) (hR : pt = false → R = []) : restF (W ++ (if pt = true then [46] ++ R else [])) = R := by
  unfold restF
  rw [idxL_body hW]
  cases pt with
  | false => simp [hR rfl]
  | true => simp
theorem txt_point {pt : Bool} {W R : List UInt8} (hW : ∀ x ∈ W, isD x = true) : pointF (W ++ (if pt = true then [46] ++ R else [])) = pt := by
  unfold pointF
  rw [idxL_body hW]
  cases pt <;> rfl
theorem all_isD {l : List UInt8} (h : ∀ x ∈ l, isD x = true) : l.all isD = true := List.all_eq_true.2 h
theorem read_txt {ng pt : Bool} {W R : List UInt8} (h0 : W ≠ []) (hW : ∀ x ∈ W, isD x = true) (hR : ∀ x ∈ R, isD x = true) (h1 : pt = false → R = []) (h2 : pt = true → R ≠ [] ∧ R.length ≤ 9) :
    readF (txt ng W pt R) = if 30 < W.length then errD 2 else if 10 ^ 30 ≤ valD (W ++ R) then errD 3 else if (ng && decide (valD (W ++ R) = 0)) = true then errD 2 else okD ⟨ng, valD (W ++ R), R.length⟩ := by
  unfold readF readOk
  rw [txt_body h0 hW, txt_whole hW, txt_rest hW h1, txt_point hW, txt_hasP h0 hW]
  have e1 : runF W 30 = decide (W.length ≤ 30) := by
    unfold runF
    rw [all_isD hW, beq_eq_false_iff_ne.2 h0]; simp
  have e2 : (!pt || runF R 9) = true := by
    cases pt with
    | false => rfl
    | true =>
      obtain ⟨g1, g2⟩ := h2 rfl
      unfold runF
      rw [all_isD hR, beq_eq_false_iff_ne.2 g1]; simp [g2]
  rw [e1, e2, Bool.and_true]
  by_cases h : 30 < W.length
  · rw [if_pos h, if_pos (decide_eq_false (by omega))]
  · rw [if_neg h, if_neg (by rw [decide_eq_true (by omega)]; decide)]
theorem pl_low (c n : Nat) : pl c (n + 1) = dch c 0 :: pl (c / 10) n := by
  unfold pl
  rw [List.range_succ_eq_map, List.map_cons, List.map_map]
  congr 1
  refine List.map_congr_left fun i _ => ?_
  show UInt8.ofNat (48 + c / 10 ^ (i + 1) % 10) = UInt8.ofNat (48 + c / 10 / 10 ^ i % 10)
  rw [Nat.div_div_eq_div_mul, Nat.pow_succ, Nat.mul_comm (10 ^ i)]
theorem dch_nat (c k : Nat) : (dch c k).toNat = 48 + c / 10 ^ k % 10 := by
  unfold dch
  rw [UInt8.toNat_ofNat']
  have := Nat.mod_lt (c / 10 ^ k) (show 0 < 10 by decide)
  omega
theorem pl_isD {c n : Nat} : ∀ x ∈ pl c n, isD x = true := by
  intro x hx
  unfold pl at hx
  obtain ⟨i, _, rfl⟩ := List.mem_map.1 hx
  rw [isD_iff, dch_nat]
  have := Nat.mod_lt (c / 10 ^ i) (show 0 < 10 by decide)
  omega
theorem valD_pl : ∀ (n c : Nat), valD (pl c n).reverse = c % 10 ^ n
  | 0, c => by simp [pl, valD, Nat.mod_one]
  | n + 1, c => by
    rw [pl_low, List.reverse_cons, valD_snoc, valD_pl n, dch_nat, Nat.pow_zero, Nat.div_one, Nat.pow_succ', Nat.mod_mul]
    omega
theorem np_val (c sc : Nat) : c < 10 ^ np c sc := by
  have h : ¬ np c sc < np c sc := by omega
  rw [np_more] at h
  have hp := p10 (np c sc)
  rcases Nat.lt_or_ge c (10 ^ np c sc) with g | g
  · exact g
  · exact absurd (.inr (Nat.div_pos g hp)) h
/-- The parts of what is printed. -/
theorem print_parts {d : Dc} (h : d.right = true) : ∃ W R : List UInt8, ∃ pt : Bool, W ≠ [] ∧ W.length ≤ 30 ∧ (∀ x ∈ W, isD x = true) ∧ (∀ x ∈ R, isD x = true) ∧ (pt = false → R = []) ∧
    (pt = true → R ≠ [] ∧ R.length ≤ 9) ∧ (R.length : Int) = d.scale ∧ valD (W ++ R) = d.c ∧ printF d = txt d.neg W pt R := by
  obtain ⟨a1, a2, a3⟩ := Dc.right_c h
  obtain ⟨ng, c, sc⟩ := d
  simp only at a1 a2 a3 ⊢
  obtain ⟨k, rfl⟩ : ∃ k : Nat, sc = k := ⟨sc.toNat, by omega⟩
  have hn := np_le a1 (show k ≤ 9 by omega)
  have hg := np_ge c k
  have hv := np_val c k
  refine ⟨(pl c (np c k)).reverse.take (np c k - k), (pl c (np c k)).reverse.drop (np c k - k), decide (0 < (k : Int)), ?_, ?_, ?_, ?_, ?_, ?_, ?_, ?_, ?_⟩
  · intro e
    have := congrArg List.length e
    simp [pl_len] at this; omega
  · simp [pl_len]; omega
  · exact fun x hx => pl_isD x (List.mem_reverse.1 (List.mem_of_mem_take hx))
  · exact fun x hx => pl_isD x (List.mem_reverse.1 (List.mem_of_mem_drop hx))
  · intro e
    have := of_decide_eq_false e
    refine List.drop_eq_nil_of_le ?_
    simp [pl_len]; omega
  · intro e
    have := of_decide_eq_true e
    refine ⟨fun e => ?_, ?_⟩
    · have := congrArg List.length e
      simp [pl_len] at this; omega
    · simp [pl_len]; omega
  · simp [pl_len]; omega
  · rw [List.take_append_drop, valD_pl, Nat.mod_eq_of_lt hv]
  · unfold printF txt
    rw [h, if_neg (by decide)]
    simp only [Int.toNat_natCast, decide_eq_true_eq]
theorem right_nz {d : Dc} (h : d.right = true) : (d.neg && decide (d.c = 0)) = false := by
  unfold Dc.right at h
  simp only [Bool.and_eq_true, Bool.not_eq_true'] at h
  exact h.2.2.2
theorem read_print {d : Dc} (h : d.right = true) : readF (printF d) = okD d := by
  obtain ⟨W, R, pt, h0, h30, hW, hR, h1, h2, hs, hv, e⟩ := print_parts h
  obtain ⟨a1, a2, a3⟩ := Dc.right_c h
  rw [e, read_txt h0 hW hR h1 h2, hv, hs, if_neg (by omega), if_neg (by omega), right_nz h, if_neg (by decide)]
/-- A zero ahead. -/
theorem read_zero {d : Dc} (h : d.right = true) : ∃ U : List UInt8, ∃ u : UInt8, printF d = (if d.neg = true then [45] else []) ++ u :: U ∧ isD u = true ∧ u :: U ≠ [] ∧ (u :: U).length ≤ 32 ∧
    (readF ((if d.neg = true then [45] else []) ++ 48 :: u :: U) = okD d ∨ ∃ e : Int, e ≠ 0 ∧ readF ((if d.neg = true then [45] else []) ++ 48 :: u :: U) = errD e) := by
  obtain ⟨W, R, pt, h0, h30, hW, hR, h1, h2, hs, hv, e⟩ := print_parts h
  obtain ⟨a1, a2, a3⟩ := Dc.right_c h
  obtain ⟨u, W, rfl⟩ := List.exists_cons_of_ne_nil h0
  have hlen := print_len h
  refine ⟨W ++ (if pt = true then [46] ++ R else []), u, e.trans rfl, hW u (List.mem_cons_self ..), by simp, ?_, ?_⟩
  · rw [e] at hlen
    unfold txt at hlen
    rw [List.length_append] at hlen
    exact Nat.le_trans (Nat.le_add_left _ _) hlen
  · have hz : ∀ x ∈ 48 :: u :: W, isD x = true := fun x hx => by
      rcases List.mem_cons.1 hx with rfl | g
      · rfl
      · exact hW x g
    have := read_txt (ng := d.neg) (pt := pt) (W := 48 :: u :: W) (R := R) (by simp) hz hR h1 h2
    have e2 : valD (48 :: u :: W ++ R) = valD (u :: W ++ R) := rfl
    rw [e2, hv, hs, if_neg (show ¬ 10 ^ 30 ≤ d.c by omega), right_nz h, if_neg (show ¬ false = true by decide)] at this
    show readF (txt d.neg (48 :: u :: W) pt R) = okD d ∨ ∃ e : Int, e ≠ 0 ∧ readF (txt d.neg (48 :: u :: W) pt R) = errD e
    rw [this]
    by_cases g : 30 < (48 :: u :: W).length
    · rw [if_pos g]; exact .inr ⟨2, by decide, rfl⟩
    · rw [if_neg g]; exact .inl rfl
end Go.Ev
end

/- The document's digits, Neg, Cmp, Add, Sub, Mul, Scaled of decimals. No condition. -/
noncomputable section
namespace Go.Ev
open Go.Proofs
variable [Lk]
set_option linter.unusedSectionVars false
set_option linter.unusedVariables false
set_option maxRecDepth 100000

end Go.Ev
end

/- The document's Print. No condition. -/
noncomputable section
namespace Go.Ev
open Go.Proofs
variable [Lk]
set_option linter.unusedSectionVars false
set_option linter.unusedVariables false
set_option maxRecDepth 100000

def preF (c sc k : Nat) : List UInt8 := if sc < k ∧ 0 < sc then (pl c k).reverse.take (k - sc) ++ 46 :: (pl c k).reverse.drop (k - sc) else (pl c k).reverse
theorem preF_step (c sc k : Nat) : preF c sc (k + 1) = dch c k :: (if k = sc ∧ 0 < k then 46 :: preF c sc k else preF c sc k) := by
  unfold preF
  rw [pl_succ, List.reverse_append, List.reverse_singleton, List.singleton_append]
  by_cases h0 : 0 < sc
  · by_cases h1 : k < sc
    · rw [if_neg (by omega), if_neg (by omega), if_neg (by omega)]
    · by_cases h2 : k = sc
      · subst h2
        rw [if_pos ⟨by omega, h0⟩, if_pos ⟨rfl, h0⟩, if_neg (by omega), show k + 1 - k = 1 by omega]
        rfl
      · rw [if_pos ⟨by omega, h0⟩, if_neg (by omega), if_pos ⟨by omega, h0⟩, show k + 1 - sc = (k - sc) + 1 by omega]
        rfl
  · rw [if_neg (by omega), if_neg (by omega), if_neg (by omega)]
theorem preF_len (c sc k : Nat) : (preF c sc k).length ≤ k + 1 := by
  unfold preF
  split
  · simp [pl_len]; omega
  · simp [pl_len]
theorem Vd_digit : ∀ (l : List Nat) (k : Nat), (∀ d ∈ l, d < 10) → l.getD k 0 = Vd l / 10 ^ k % 10
  | [], k, _ => by simp [Vd]
  | d :: l, 0, h => by
    have := h d (List.mem_cons_self ..)
    show d = (d + 10 * Vd l) / 10 ^ 0 % 10
    rw [Nat.pow_zero, Nat.div_one]; omega
  | d :: l, k + 1, h => by
    have hd := h d (List.mem_cons_self ..)
    show l.getD k 0 = (d + 10 * Vd l) / 10 ^ (k + 1) % 10
    rw [Vd_digit l k (fun x hx => h x (List.mem_cons_of_mem _ hx)), Nat.pow_succ', ← Nat.div_div_eq_div_mul, show (d + 10 * Vd l) / 10 = Vd l by omega]
theorem u8_dig : ∀ d, d < 10 → IntKind.u8.wrap (IntKind.i64.wrap (48 + ((d : Nat) : Int))) = (((UInt8.ofNat (48 + d)).toNat : Nat) : Int) := by decide +kernel
theorem printF_pre {ng : Bool} {c k : Nat} (hr : (Dc.mk ng c (k : Int)).right = true) : printF ⟨ng, c, k⟩ = (if ng = true then [45] else []) ++ preF c k (np c k) := by
  unfold printF preF
  rw [hr, if_neg (by decide)]
  simp only [Int.toNat_natCast]
  have hn := np_ge c k
  generalize np c k = n at *
  congr 1
  by_cases h : 0 < k
  · rw [if_pos (show (0 : Int) < (k : Int) by omega), if_pos ⟨hn, h⟩]; rfl
  · obtain rfl : k = 0 := by omega
    rw [if_neg (show ¬ (0 : Int) < ((0 : Nat) : Int) by omega), if_neg (by omega), List.append_nil, List.take_of_length_le (by simp [pl_len])]
end Go.Ev
end

/- pyxlaw2.text. No condition. -/
noncomputable section
namespace Go.Ev
open Go.Proofs
variable [Lk]
set_option linter.unusedSectionVars false
set_option linter.unusedVariables false
set_option maxRecDepth 100000

def pieceV : Value := .agg #[sv [45], sv [46], sv [32], sv [48], sv [97], sv [57, 57, 57, 57, 57, 57, 57, 57, 57, 57, 57, 57, 57, 57, 57, 57, 57, 57, 57, 57]]
theorem piece_at {i : Nat} (h : i < 6) : ∃ l : List UInt8, l.length ≤ 20 ∧ evIndex Tryd.prog 62 pieceV (.int .i64 (i : Int)) = some (sv l) := by
  match i, h with
  | 0, _ => exact ⟨_, by decide, rfl⟩
  | 1, _ => exact ⟨_, by decide, rfl⟩
  | 2, _ => exact ⟨_, by decide, rfl⟩
  | 3, _ => exact ⟨_, by decide, rfl⟩
  | 4, _ => exact ⟨_, by decide, rfl⟩
  | 5, _ => exact ⟨_, by decide, rfl⟩
end Go.Ev
end

/- The document's Read, without a program. No condition. -/
noncomputable section
namespace Go.Ev
open Go.Proofs
variable [Lk]
set_option linter.unusedSectionVars false
set_option linter.unusedVariables false
set_option maxRecDepth 100000

/-- What is read of a body. -/
def readB (ng : Bool) (b : List UInt8) : Value :=
  if readOk b = false then errD 2 else if 10 ^ 30 ≤ valD (wholeF b ++ restF b) then errD 3
  else if (ng && decide (valD (wholeF b ++ restF b) = 0)) = true then errD 2 else okD ⟨ng, valD (wholeF b ++ restF b), (restF b).length⟩
theorem readF_B (l : List UInt8) : readF l = readB (hasP l [45]) (bodyF l) := rfl
theorem idxL_shift {c : Nat} : ∀ (T : List UInt8) (n : Nat), idxL c T n = (idxL c T 0).map (· + n)
  | [], n => rfl
  | x :: T, n => by
    show (match Nat.beq x.toNat c with | true => some n | false => idxL c T (n + 1)) = (match Nat.beq x.toNat c with | true => some 0 | false => idxL c T (0 + 1)).map (· + n)
    cases Nat.beq x.toNat c with
    | true => simp
    | false =>
      show idxL c T (n + 1) = (idxL c T (0 + 1)).map (· + n)
      rw [idxL_shift T (n + 1), idxL_shift T (0 + 1)]
      cases idxL c T 0 with
      | none => rfl
      | some k => simp; omega
theorem idx_pre {W T : List UInt8} (h : ∀ x ∈ W, x.toNat ≠ 46) : idxL 46 (W ++ T) 0 = (idxL 46 T 0).map (· + W.length) := by
  rw [idxL_skip W T 0 h, Nat.zero_add, idxL_shift]
theorem whole_pre {W T : List UInt8} (h : ∀ x ∈ W, x.toNat ≠ 46) : wholeF (W ++ T) = W ++ wholeF T := by
  unfold wholeF
  rw [idx_pre h]
  cases idxL 46 T 0 with
  | none => rfl
  | some k =>
    show (W ++ T).take (k + W.length) = W ++ T.take k
    rw [List.take_append, List.take_of_length_le (by omega), show k + W.length - W.length = k by omega]
theorem rest_pre {W T : List UInt8} (h : ∀ x ∈ W, x.toNat ≠ 46) : restF (W ++ T) = restF T := by
  unfold restF
  rw [idx_pre h]
  cases idxL 46 T 0 with
  | none => rfl
  | some k =>
    show (W ++ T).drop (k + W.length + 1) = T.drop (k + 1)
    rw [List.drop_append, List.drop_eq_nil_of_le (by omega), List.nil_append]
    congr 1; omega
theorem point_pre {W T : List UInt8} (h : ∀ x ∈ W, x.toNat ≠ 46) : pointF (W ++ T) = pointF T := by
  unfold pointF
  rw [idx_pre h]
  cases idxL 46 T 0 <;> rfl
theorem isD_ne {W : List UInt8} (h : ∀ x ∈ W, isD x = true) : ∀ x ∈ W, x.toNat ≠ 46 := fun x hx => by have := isD_iff.1 (h x hx); omega
theorem runF_no {l : List UInt8} {m : Nat} (h : l = [] ∨ m < l.length ∨ ∃ x ∈ l, isD x = false) : runF l m = false := by
  cases hr : runF l m with
  | false => rfl
  | true =>
    obtain ⟨h1, h2, h3⟩ := runF_ok hr
    rcases h with h | h | ⟨x, hx, h⟩
    · exact absurd h h1
    · omega
    · rw [h3 x hx] at h; cases h
theorem bad_whole {W rest : List UInt8} {x : UInt8} (hW : ∀ y ∈ W, isD y = true) (hx : x.toNat ≠ 46) (h : 30 ≤ W.length ∨ isD x = false) : readOk (W ++ x :: rest) = false := by
  unfold readOk
  have e : W ++ x :: rest = (W ++ [x]) ++ rest := by simp
  have hne : ∀ y ∈ W ++ [x], y.toNat ≠ 46 := fun y hy => by
    rcases List.mem_append.1 hy with g | g
    · exact isD_ne hW y g
    · rw [List.mem_singleton] at g; rw [g]; exact hx
  rw [e, whole_pre hne, runF_no]
  · rfl
  · refine .inr ?_
    rcases h with h | h
    · exact .inl (by simp; omega)
    · exact .inr ⟨x, by simp, h⟩
theorem dot_whole (r : List UInt8) : wholeF (46 :: r) = [] := rfl
theorem dot_rest (r : List UInt8) : restF (46 :: r) = r := rfl
theorem dot_point (r : List UInt8) : pointF (46 :: r) = true := rfl
theorem bad_dot (r : List UInt8) : readOk (46 :: r) = false := by
  unfold readOk
  rw [dot_whole, runF_no (.inl rfl)]; rfl
theorem bad_rest {W R rest : List UInt8} {x : UInt8} (hW : ∀ y ∈ W, isD y = true) (h : 9 ≤ R.length ∨ isD x = false) : readOk (W ++ 46 :: (R ++ x :: rest)) = false := by
  unfold readOk
  rw [whole_pre (isD_ne hW), rest_pre (isD_ne hW), point_pre (isD_ne hW), dot_rest, dot_point, runF_no (l := R ++ x :: rest)]
  · simp
  · refine .inr ?_
    rcases h with h | h
    · exact .inl (by simp; omega)
    · exact .inr ⟨x, by simp, h⟩
/-- The digits, the lowest first. -/
def nL (l : List UInt8) : List Nat := (l.map fun x => x.toNat - 48).reverse
theorem nL_len (l : List UInt8) : (nL l).length = l.length := by simp [nL]
theorem nL_snoc (l : List UInt8) (x : UInt8) : nL (l ++ [x]) = (x.toNat - 48) :: nL l := by simp [nL]
theorem Vd_nL' : ∀ m : List UInt8, Vd (m.map fun x => x.toNat - 48) = valD m.reverse
  | [] => rfl
  | x :: m => by
    rw [List.reverse_cons, valD_snoc, ← Vd_nL' m]
    show (x.toNat - 48) + 10 * Vd (m.map fun x => x.toNat - 48) = _
    omega
theorem Vd_nL (l : List UInt8) : Vd (nL l) = valD l := by
  unfold nL
  rw [← List.map_reverse, Vd_nL', List.reverse_reverse]
theorem nL_lt {l : List UInt8} (h : ∀ x ∈ l, isD x = true) : ∀ d ∈ nL l, d < 10 := by
  intro d hd
  unfold nL at hd
  rw [List.mem_reverse] at hd
  obtain ⟨x, hx, rfl⟩ := List.mem_map.1 hd
  have := isD_iff.1 (h x hx)
  omega
/-- What stands when some of a body is read. -/
structure RdI (b : List UInt8) (i : Nat) (W R : List UInt8) (pt : Bool) : Prop where
  at_ : b.take i = W ++ (if pt = true then [46] ++ R else [])
  le : i ≤ b.length
  w30 : W.length ≤ 30
  r9 : R.length ≤ 9
  dW : ∀ x ∈ W, isD x = true
  dR : ∀ x ∈ R, isD x = true
  off : pt = false → R = []
  on : pt = true → W ≠ []
theorem RdI.split {b W R : List UInt8} {i : Nat} {pt : Bool} (h : RdI b i W R pt) (hi : i < b.length) : b = W ++ ((if pt = true then [46] ++ R else []) ++ b[i] :: b.drop (i + 1)) := by
  have := (List.take_append_drop i b).symm
  rw [h.at_, List.drop_eq_getElem_cons hi] at this
  rw [List.append_assoc] at this
  exact this
/-- A figure more. -/
theorem RdI.fig {b W R : List UInt8} {i : Nat} (h : RdI b i W R false) (hi : i < b.length) (hx : isD b[i] = true) : (30 ≤ W.length → readOk b = false) ∧ (W.length < 30 → RdI b (i + 1) (W ++ [b[i]]) [] false) := by
  have hs := h.split hi
  have hx' := isD_iff.1 hx
  refine ⟨fun g => ?_, fun g => ⟨?_, by omega, by simp; omega, by simp, ?_, by simp, fun _ => rfl, fun h => nomatch h⟩⟩
  · rw [hs]
    exact bad_whole h.dW (by omega) (.inl g)
  · rw [List.take_succ_eq_append_getElem hi, h.at_]; simp
  · intro y hy
    rcases List.mem_append.1 hy with q | q
    · exact h.dW y q
    · rw [List.mem_singleton] at q; rw [q]; exact hx
theorem RdI.figR {b W R : List UInt8} {i : Nat} (h : RdI b i W R true) (hi : i < b.length) (hx : isD b[i] = true) : (9 ≤ R.length → readOk b = false) ∧ (R.length < 9 → RdI b (i + 1) W (R ++ [b[i]]) true) := by
  have hs := h.split hi
  refine ⟨fun g => ?_, fun g => ⟨?_, by omega, h.w30, by simp; omega, h.dW, ?_, (fun h => nomatch h), fun _ => h.on rfl⟩⟩
  · rw [hs]
    exact bad_rest h.dW (.inl g)
  · rw [List.take_succ_eq_append_getElem hi, h.at_]; simp
  · intro y hy
    rcases List.mem_append.1 hy with q | q
    · exact h.dR y q
    · rw [List.mem_singleton] at q; rw [q]; exact hx
theorem RdI.dot {b W R : List UInt8} {i : Nat} (h : RdI b i W R false) (hi : i < b.length) (hx : b[i] = 46) : (W = [] → readOk b = false) ∧ (W ≠ [] → RdI b (i + 1) W [] true) := by
  have hs := h.split hi
  rw [hx] at hs
  refine ⟨fun g => ?_, fun g => ⟨?_, by omega, h.w30, by simp, h.dW, by simp, (fun h => nomatch h), fun _ => g⟩⟩
  · rw [hs, g]; exact bad_dot _
  · rw [List.take_succ_eq_append_getElem hi, h.at_, hx]; simp
theorem RdI.bad {b W R : List UInt8} {i : Nat} {pt : Bool} (h : RdI b i W R pt) (hi : i < b.length) (hx : isD b[i] = false) (hp : pt = true ∨ b[i] ≠ 46) : readOk b = false := by
  have hs := h.split hi
  rw [hs]
  cases pt with
  | true => exact bad_rest h.dW (.inr hx)
  | false =>
    refine bad_whole h.dW (fun e => ?_) (.inr hx)
    rcases hp with g | g
    · cases g
    · exact g (UInt8.toNat_inj.1 e)
/-- At the end. -/
theorem RdI.fin {b W R : List UInt8} {pt : Bool} (h : RdI b b.length W R pt) (ng : Bool) :
    readB ng b = if W = [] ∨ (pt = true ∧ R = []) ∨ (ng = true ∧ valD (W ++ R) = 0) then errD 2 else dmade ng (valD (W ++ R)) (R.length : Int) := by
  have hb : b = W ++ (if pt = true then [46] ++ R else []) := by have := h.at_; rwa [List.take_length] at this
  have bad : readOk b = false → readB ng b = errD 2 := fun g => if_pos g
  by_cases h1 : W = []
  · rw [if_pos (.inl h1)]
    have hpt : pt = false := by
      cases hp : pt with
      | false => rfl
      | true => exact absurd h1 (h.on hp)
    refine bad ?_
    rw [hb, h1, hpt]; rfl
  by_cases h2 : pt = true ∧ R = []
  · rw [if_pos (.inr (.inl h2))]
    refine bad ?_
    rw [hb, h2.1, if_pos rfl]
    unfold readOk
    show (runF (wholeF (W ++ 46 :: R)) 30 && (!pointF (W ++ 46 :: R) || runF (restF (W ++ 46 :: R)) 9)) = false
    rw [rest_pre (isD_ne h.dW), point_pre (isD_ne h.dW), dot_rest, dot_point, h2.2, runF_no (.inl rfl)]; simp
  have hr := read_txt (ng := ng) (pt := pt) h1 h.dW h.dR h.off (fun hp => ⟨fun e => h2 ⟨hp, e⟩, h.r9⟩)
  rw [readF_B, txt_hasP h1 h.dW, txt_body h1 h.dW, ← hb, if_neg (by have := h.w30; omega)] at hr
  rw [hr]
  by_cases h3 : ng = true ∧ valD (W ++ R) = 0
  · have q : W = [] ∨ (pt = true ∧ R = []) ∨ (ng = true ∧ valD (W ++ R) = 0) := .inr (.inr h3)
    rw [if_pos q, h3.1, h3.2, if_neg (by decide), if_pos (by decide)]
  · have q : ¬ (W = [] ∨ (pt = true ∧ R = []) ∨ (ng = true ∧ valD (W ++ R) = 0)) := by
      rintro (g | g | g)
      · exact h1 g
      · exact h2 g
      · exact h3 g
    rw [if_neg q]
    have hnz : (ng && decide (valD (W ++ R) = 0)) = false := by
      cases ng <;> simp at h3 ⊢; exact h3
    unfold dmade
    by_cases h4 : 10 ^ 30 ≤ valD (W ++ R)
    · rw [if_pos h4, if_neg (by omega)]
    · rw [if_neg h4, if_neg (by rw [hnz]; decide), if_pos (by omega)]
      have : (ng && !decide (valD (W ++ R) = 0)) = ng := by cases ng <;> simp at h3 ⊢; exact h3
      rw [this]
end Go.Ev
end

/- The document's Read walked. No condition. -/
noncomputable section
namespace Go.Ev
open Go.Proofs
variable [Lk]
set_option linter.unusedSectionVars false
set_option linter.unusedVariables false
set_option maxRecDepth 100000

theorem hasP_cons (x : UInt8) (l : List UInt8) : hasP (x :: l) [45] = (((x.toNat : Nat) : Int) == 45) := by
  show (true && ([x] == [45])) = _
  rw [Bool.true_and, Bool.eq_iff_iff, beq_iff_eq, beq_iff_eq]
  constructor
  · intro h; injection h with h; rw [h]; rfl
  · intro h
    have : x = 45 := UInt8.toNat_inj.1 (by show x.toNat = 45; omega)
    rw [this]
theorem u8_fig {x : UInt8} (h : isD x = true) : IntKind.i64.wrap (IntKind.u8.wrap (((x.toNat : Nat) : Int) - 48)) = ((x.toNat - 48 : Nat) : Int) := by
  have := isD_iff.1 h
  rw [wrap_u8i, wi64 (by omega) (by omega)]; omega
theorem rread_spec {z : St} (wf : WF z) (l : List UInt8) (hl : l.length < 4611686018427387904) : Cw Tryd.prog 37 [sv l] z fun r s' => K0 z s' ∧ r = readF l := by
  have hp : Hp (fun _ => False) z [] [] z := Hp.start _ wf _ (by simp)
  refine Cw.enterS Tryd.func37 rfl rfl ?_
  refine Sm.seqW ?_
  conv => whnf
  refine hp.alloc (cs := Dc.zero.cells) (e := 4) rfl rfl rfl rfl rfl ?_
  clear hp
  intro p2 s hp _
  conv => whnf
  refine Sm.live [0, 2] ?_
  conv => whnf
  refine Sm.seqC (fun e L' s' => e = .normal ∧ s' = s ∧ Sub [(0, sv l), (2, .pointer (some ⟨p2, 0, none⟩)), (4, .bool (hasP l [45]))] L') ?_ ?_
  · conv => whnf
    cases l with
    | nil =>
      repeat (first | (refine Br.yes (by first | with_reducible rfl | with_reducible exact beq_self_eq_true _ | rfl) ?_; conv => whnf) | (refine Br.no (by first | with_reducible rfl | with_reducible exact bne_self_eq_false _ | rfl) ?_; conv => whnf))
      exact ⟨rfl, rfl, subK_ok ⟨rfl, rfl, rfl, trivial⟩⟩
    | cons x l =>
      have q : decide ((((bs ⟨(x :: l).toArray⟩).length : Nat) : Int) > 0) = true := decide_eq_true (by show (((x :: l).length : Nat) : Int) > 0; simp)
      repeat (first | (refine Br.yes q ?_; conv => whnf) | (first | (refine Br.yes (by first | with_reducible rfl | with_reducible exact beq_self_eq_true _ | rfl) ?_; conv => whnf) | (refine Br.no (by first | with_reducible rfl | with_reducible exact bne_self_eq_false _ | rfl) ?_; conv => whnf)))
      refine Om.of _ (str_index Tryd.underlying9 (l := x :: l) (i := 0) (by simp) .i64) ?_
      conv => whnf
      repeat (first | (refine Br.yes q ?_; conv => whnf) | (first | (refine Br.yes (by first | with_reducible rfl | with_reducible exact beq_self_eq_true _ | rfl) ?_; conv => whnf) | (refine Br.no (by first | with_reducible rfl | with_reducible exact bne_self_eq_false _ | rfl) ?_; conv => whnf)))
      exact ⟨rfl, rfl, subK_ok ⟨rfl, rfl, congrArg (fun x => some (Value.bool x)) (hasP_cons x l).symm, trivial⟩⟩
  rintro e L' s' ⟨rfl, rfl, hs⟩
  refine Sm.weak _ hs ?_
  clear hs
  refine Sm.seqC (fun e L' s'' => e = .normal ∧ s'' = s' ∧ Sub [(0, sv (bodyF l)), (2, .pointer (some ⟨p2, 0, none⟩)), (4, .bool (hasP l [45]))] L') ?_ ?_
  · conv => whnf
    cases hng : hasP l [45] with
    | false =>
      repeat (first | (refine Br.yes (by first | with_reducible rfl | with_reducible exact beq_self_eq_true _ | rfl) ?_; conv => whnf) | (refine Br.no (by first | with_reducible rfl | with_reducible exact bne_self_eq_false _ | rfl) ?_; conv => whnf))
      exact ⟨rfl, rfl, subK_ok ⟨congrArg (fun x => some (sv x)) (show l = bodyF l from (if_neg (by rw [hng]; decide)).symm), rfl, rfl, trivial⟩⟩
    | true =>
      repeat (first | (refine Br.yes (by first | with_reducible rfl | with_reducible exact beq_self_eq_true _ | rfl) ?_; conv => whnf) | (refine Br.no (by first | with_reducible rfl | with_reducible exact bne_self_eq_false _ | rfl) ?_; conv => whnf))
      have h1 : 1 ≤ l.length := by
        cases l with
        | nil => cases hng
        | cons x l => simp
      refine Om.of _ (str_drop Tryd.underlying9 .i64 (l := l) (j := 1) h1) ?_
      conv => whnf
      exact ⟨rfl, rfl, subK_ok ⟨congrArg (fun x => some (sv x)) (show l.drop 1 = bodyF l from (if_pos hng).symm), rfl, rfl, trivial⟩⟩
  rintro e L' s' ⟨rfl, rfl, hs⟩
  refine Sm.weak _ hs ?_
  clear hs
  rw [readF_B]
  have hb := body_len l
  generalize hasP l [45] = ng at *
  obtain ⟨b, hbe⟩ : ∃ b, b = bodyF l := ⟨_, rfl⟩
  rw [← hbe] at hb ⊢
  have hbl : b.length < 4611686018427387904 := by omega
  refine Sm.seqW ?_
  conv => whnf
  refine Sm.live [0, 2, 4, 5] ?_
  conv => whnf
  refine Sm.seqW ?_
  conv => whnf
  refine Sm.live [0, 2, 4, 5, 6] ?_
  conv => whnf
  refine Sm.seqW ?_
  conv => whnf
  refine Sm.live [0, 2, 4, 5, 6, 7] ?_
  conv => whnf
  refine Sm.seqW ?_
  conv => whnf
  refine Sm.live [0, 2, 4, 5, 6, 7, 8] ?_
  conv => whnf
  refine Sm.seq ?_
  refine Sm.seqW ?_
  conv => whnf
  refine Sm.live [0, 2, 4, 5, 6, 7, 8, 9] ?_
  conv => whnf
  refine Sm.block ?_
  refine Sm.loop ?_
  refine Lp.ofS (α := Nat × List UInt8 × List UInt8 × Bool × Option Nat × Value) (fun x => [(0, sv b), (2, .pointer (some ⟨p2, 0, none⟩)), (4, .bool ng), (5, x.2.2.2.2.2), (6, .int .i64 ((x.2.1.length : Nat) : Int)), (7, .int .i64 ((x.2.2.1.length : Nat) : Int)), (8, .bool x.2.2.2.1), (9, .int .i64 (x.1 : Int))])
    (fun x s' => RdI b x.1 x.2.1 x.2.2.1 x.2.2.2.1 ∧ Hp (fun _ => False) z [] [slA x.2.2.2.2.1 x.2.2.2.2.2 1 (nL (x.2.1 ++ x.2.2.1)).length (natI (nL (x.2.1 ++ x.2.2.1))), blkA p2 p2 Dc.zero.cells 4] s')
    (fun x => b.length - x.1) ?_ (0, [], [], false, none, .slice none 0 0) (subK_ok (by refine ⟨rfl, rfl, rfl, rfl, rfl, rfl, rfl, rfl, trivial⟩))
    ⟨⟨by simp, by omega, by simp, by simp, by simp, by simp, fun _ => rfl, fun h => nomatch h⟩, ((hp.nilA 1).toSl (by repeat (first | exact Rm.here | apply Rm.there)) (Sl.nil _ _)).pik (by repeat (first | exact Pik.nil | exact Pik.refl _ | exact Rm.here | apply Rm.there | apply Pik.cons | apply Pik.skip))⟩
  clear hp
  rintro ⟨i, W, R, pt, κ, v⟩ s ⟨ok, hp⟩
  simp only at ok hp
  have hle := ok.le
  have hw30 := ok.w30
  have hr9 := ok.r9
  refine Sm.seq ?_
  refine Sm.seqW ?_
  conv => whnf
  refine Sm.live [0, 2, 4, 5, 6, 7, 8, 9, 24] ?_
  conv => whnf
  refine Sm.ofW ?_
  conv => whnf
  refine Br.mk (fun hc => ?_) (fun hc => ?_)
  · have hcI : i < b.length := by have h : (i : Int) < (b.length : Int) := of_decide_eq_true hc; omega
    conv => whnf
    refine Sm.seq ?_
    refine Sm.block ?_
    refine Sm.block ?_
    refine Sm.seqC (fun e L' s' => e = .normal ∧ s' = s ∧ Sub [(0, sv b), (2, .pointer (some ⟨p2, 0, none⟩)), (4, .bool ng), (5, v), (6, .int .i64 ((W.length : Nat) : Int)), (7, .int .i64 ((R.length : Nat) : Int)), (8, .bool pt), (9, .int .i64 (i : Int)), (28, .bool (isD b[i]))] L') ?_ ?_
    · conv => whnf
      refine Om.of _ (str_index Tryd.underlying9 (l := b) (i := i) hcI .i64) ?_
      conv => whnf
      by_cases g : 48 ≤ b[i].toNat
      · have q : decide (((b[i].toNat : Nat) : Int) ≥ 48) = true := decide_eq_true (by omega)
        repeat (first | (refine Br.yes q ?_; conv => whnf) | (first | (refine Br.yes (by first | with_reducible rfl | with_reducible exact beq_self_eq_true _ | rfl) ?_; conv => whnf) | (refine Br.no (by first | with_reducible rfl | with_reducible exact bne_self_eq_false _ | rfl) ?_; conv => whnf)))
        refine Om.of _ (str_index Tryd.underlying9 (l := b) (i := i) hcI .i64) ?_
        conv => whnf
        repeat (first | (refine Br.yes q ?_; conv => whnf) | (first | (refine Br.yes (by first | with_reducible rfl | with_reducible exact beq_self_eq_true _ | rfl) ?_; conv => whnf) | (refine Br.no (by first | with_reducible rfl | with_reducible exact bne_self_eq_false _ | rfl) ?_; conv => whnf)))
        exact ⟨rfl, rfl, subK_ok ⟨rfl, rfl, rfl, rfl, rfl, rfl, rfl, rfl, congrArg (fun x => some (Value.bool x)) (show _ = decide _ from decide_eq_decide.2 (by omega)), trivial⟩⟩
      · have q : decide (((b[i].toNat : Nat) : Int) ≥ 48) = false := decide_eq_false (by omega)
        repeat (first | (refine Br.no q ?_; conv => whnf) | (first | (refine Br.yes (by first | with_reducible rfl | with_reducible exact beq_self_eq_true _ | rfl) ?_; conv => whnf) | (refine Br.no (by first | with_reducible rfl | with_reducible exact bne_self_eq_false _ | rfl) ?_; conv => whnf)))
        have hd : isD b[i] = false := decide_eq_false (by omega)
        rw [hd]
        exact ⟨rfl, rfl, subK_ok ⟨rfl, rfl, rfl, rfl, rfl, rfl, rfl, rfl, rfl, trivial⟩⟩
    rintro e L' s' ⟨rfl, rfl, hs⟩
    refine Sm.weak _ hs ?_
    clear hs
    refine Sm.ofW ?_
    conv => whnf
    have ei : IntKind.i64.wrap ((i : Int) + 1) = ((i + 1 : Nat) : Int) := by rw [wi64 (by omega) (by omega)]; omega
    obtain ⟨aR, cR, rfl⟩ := Sl.shape (show Sl s' κ v 1 (nL (W ++ R)).length (natI (nL (W ++ R))) from hp.okF (slA κ v 1 (nL (W ++ R)).length (natI (nL (W ++ R)))) (by simp))
    cases hd : isD b[i] with
    | true =>
      repeat (first | (refine Br.yes (by first | with_reducible rfl | with_reducible exact beq_self_eq_true _ | rfl) ?_; conv => whnf) | (refine Br.no (by first | with_reducible rfl | with_reducible exact bne_self_eq_false _ | rfl) ?_; conv => whnf))
      refine Om.of _ (str_index Tryd.underlying9 (l := b) (i := i) hcI .i64) ?_
      conv => whnf
      rw [u8_fig hd]
      have hnl : (nL (W ++ R)).length ≤ 39 := by rw [nL_len, List.length_append]; omega
      refine hp.one ID rfl ?_
      clear hp
      intro v4 b4 s4 hp _
      conv => whnf
      have x4 : Sl s4 κ (.slice aR (nL (W ++ R)).length cR) 1 (nL (W ++ R)).length (natI (nL (W ++ R))) := hp.okF (slA κ (.slice aR (nL (W ++ R)).length cR) 1 (nL (W ++ R)).length (natI (nL (W ++ R)))) (by simp)
      obtain ⟨a4, c4, rfl⟩ := (hp.okF _ List.mem_cons_self : Own s4 b4 v4 1 1 _).sl.shape
      refine (hp.toOn (k := b4) (by repeat (first | exact Rm.here | apply Rm.there))).app ID Tryd.underlying86 rfl (κ := some b4) (v := .slice a4 1 c4) (by repeat (first | exact Rm.here | apply Rm.there)) (elems_sl x4) (by rw [natI_len]; omega) (by simp [natI]; intros; rfl) (by omega) ?_
      clear hp x4
      intro v5 κ5 s5 hp
      have hnv : [Value.int .i64 ((b[i].toNat - 48 : Nat) : Int)] ++ natI (nL (W ++ R)) = natI ((b[i].toNat - 48) :: nL (W ++ R)) := by simp [natI]
      have hln : 1 + (nL (W ++ R)).length = ((b[i].toNat - 48) :: nL (W ++ R)).length := by simp; omega
      rw [hnv, hln, ← nL_snoc] at hp
      replace hp := hp.toSl (by repeat (first | exact Rm.here | apply Rm.there)) (hp.slF (κ := κ5) (v := v5) (by repeat (first | exact Rm.here | apply Rm.there)))
      conv => whnf
      cases pt with
      | false =>
        obtain rfl := ok.off rfl
        obtain ⟨f1, f2⟩ := ok.fig hcI hd
        have eh : IntKind.i64.wrap ((W.length : Int) + 1) = (((W ++ [b[i]]).length : Nat) : Int) := by rw [wi64 (by omega) (by omega)]; simp
        repeat (first | (refine Br.yes (by first | with_reducible rfl | with_reducible exact beq_self_eq_true _ | rfl) ?_; conv => whnf) | (refine Br.no (by first | with_reducible rfl | with_reducible exact bne_self_eq_false _ | rfl) ?_; conv => whnf))
        by_cases h30 : 30 ≤ W.length
        · have q : decide (IntKind.i64.wrap ((W.length : Int) + 1) > 30) = true := decide_eq_true (by rw [wi64 (by omega) (by omega)]; omega)
          repeat (first | (refine Br.yes q ?_; conv => whnf) | (first | (refine Br.yes (by first | with_reducible rfl | with_reducible exact beq_self_eq_true _ | rfl) ?_; conv => whnf) | (refine Br.no (by first | with_reducible rfl | with_reducible exact bne_self_eq_false _ | rfl) ?_; conv => whnf)))
          refine hp.storeW (vs := Dc.zero.cells) rfl (by repeat (first | exact Rm.here | apply Rm.there)) (by first | exact C2_same _ _ _ _ | exact C4_same _ _ _ _ _ _ _ _ | exact Dc_same _ _ | rfl) rfl rfl rfl ?_
          clear hp
          intro s hp _
          conv => whnf
          refine hp.loadA (l := Dc.zero.cells) (by repeat (first | exact Has.here | apply Has.there | (apply Has.swap; repeat (first | exact HasR.here | apply HasR.there)))) rfl (by rfl) rfl rfl ?_
          conv => whnf
          exact ⟨hp.fr, by rw [show readB ng b = errD 2 from if_pos (f1 h30)]; rfl⟩
        · have q : decide (IntKind.i64.wrap ((W.length : Int) + 1) > 30) = false := decide_eq_false (by rw [wi64 (by omega) (by omega)]; omega)
          repeat (first | (refine Br.no q ?_; conv => whnf) | (first | (refine Br.yes (by first | with_reducible rfl | with_reducible exact beq_self_eq_true _ | rfl) ?_; conv => whnf) | (refine Br.no (by first | with_reducible rfl | with_reducible exact bne_self_eq_false _ | rfl) ?_; conv => whnf)))
          rw [List.append_nil] at hp
          refine Sm.ofW ?_
          conv => whnf
          exact ⟨(i + 1, W ++ [b[i]], [], false, κ5, v5), by (show b.length - (i + 1) < b.length - i); omega, subK_ok (by refine ⟨rfl, rfl, rfl, rfl, ?_, ?_, rfl, ?_, trivial⟩ <;> first | rfl | (refine congrArg (fun x => some (Value.int .i64 x)) ?_; first | exact eh | exact ei)), f2 (by omega), by (show Hp _ _ _ _ _); rw [List.append_nil]; exact hp.pik (by repeat (first | exact Pik.nil | exact Pik.refl _ | exact Rm.here | apply Rm.there | apply Pik.cons | apply Pik.skip))⟩
      | true =>
        obtain ⟨f1, f2⟩ := ok.figR hcI hd
        have eh : IntKind.i64.wrap ((R.length : Int) + 1) = (((R ++ [b[i]]).length : Nat) : Int) := by rw [wi64 (by omega) (by omega)]; simp
        have q0 : decide ((W.length : Int) > 30) = false := decide_eq_false (by omega)
        by_cases h9 : 9 ≤ R.length
        · have q : decide (IntKind.i64.wrap ((R.length : Int) + 1) > 9) = true := decide_eq_true (by rw [wi64 (by omega) (by omega)]; omega)
          repeat (first | (refine Br.no q0 ?_; conv => whnf) | (refine Br.yes q ?_; conv => whnf) | (first | (refine Br.yes (by first | with_reducible rfl | with_reducible exact beq_self_eq_true _ | rfl) ?_; conv => whnf) | (refine Br.no (by first | with_reducible rfl | with_reducible exact bne_self_eq_false _ | rfl) ?_; conv => whnf)))
          refine hp.storeW (vs := Dc.zero.cells) rfl (by repeat (first | exact Rm.here | apply Rm.there)) (by first | exact C2_same _ _ _ _ | exact C4_same _ _ _ _ _ _ _ _ | exact Dc_same _ _ | rfl) rfl rfl rfl ?_
          clear hp
          intro s hp _
          conv => whnf
          refine hp.loadA (l := Dc.zero.cells) (by repeat (first | exact Has.here | apply Has.there | (apply Has.swap; repeat (first | exact HasR.here | apply HasR.there)))) rfl (by rfl) rfl rfl ?_
          conv => whnf
          exact ⟨hp.fr, by rw [show readB ng b = errD 2 from if_pos (f1 h9)]; rfl⟩
        · have q : decide (IntKind.i64.wrap ((R.length : Int) + 1) > 9) = false := decide_eq_false (by rw [wi64 (by omega) (by omega)]; omega)
          repeat (first | (refine Br.no q0 ?_; conv => whnf) | (refine Br.no q ?_; conv => whnf) | (first | (refine Br.yes (by first | with_reducible rfl | with_reducible exact beq_self_eq_true _ | rfl) ?_; conv => whnf) | (refine Br.no (by first | with_reducible rfl | with_reducible exact bne_self_eq_false _ | rfl) ?_; conv => whnf)))
          refine Sm.ofW ?_
          conv => whnf
          exact ⟨(i + 1, W, R ++ [b[i]], true, κ5, v5), by (show b.length - (i + 1) < b.length - i); omega, subK_ok (by refine ⟨rfl, rfl, rfl, rfl, ?_, ?_, rfl, ?_, trivial⟩ <;> first | rfl | (refine congrArg (fun x => some (Value.int .i64 x)) ?_; first | exact eh | exact ei)), f2 (by omega), by (show Hp _ _ _ _ _); rw [← List.append_assoc]; exact hp.pik (by repeat (first | exact Pik.nil | exact Pik.refl _ | exact Rm.here | apply Rm.there | apply Pik.cons | apply Pik.skip))⟩
    | false =>
      repeat (first | (refine Br.yes (by first | with_reducible rfl | with_reducible exact beq_self_eq_true _ | rfl) ?_; conv => whnf) | (refine Br.no (by first | with_reducible rfl | with_reducible exact bne_self_eq_false _ | rfl) ?_; conv => whnf))
      refine Om.of _ (str_index Tryd.underlying9 (l := b) (i := i) hcI .i64) ?_
      conv => whnf
      by_cases hx : b[i] = 46
      · have q : (((b[i].toNat : Nat) : Int) == 46) = true := by rw [hx]; rfl
        cases pt with
        | true =>
          repeat (first | (refine Br.yes q ?_; conv => whnf) | (first | (refine Br.yes (by first | with_reducible rfl | with_reducible exact beq_self_eq_true _ | rfl) ?_; conv => whnf) | (refine Br.no (by first | with_reducible rfl | with_reducible exact bne_self_eq_false _ | rfl) ?_; conv => whnf)))
          refine hp.storeW (vs := Dc.zero.cells) rfl (by repeat (first | exact Rm.here | apply Rm.there)) (by first | exact C2_same _ _ _ _ | exact C4_same _ _ _ _ _ _ _ _ | exact Dc_same _ _ | rfl) rfl rfl rfl ?_
          clear hp
          intro s hp _
          conv => whnf
          refine hp.loadA (l := Dc.zero.cells) (by repeat (first | exact Has.here | apply Has.there | (apply Has.swap; repeat (first | exact HasR.here | apply HasR.there)))) rfl (by rfl) rfl rfl ?_
          conv => whnf
          exact ⟨hp.fr, by rw [show readB ng b = errD 2 from if_pos (ok.bad hcI hd (.inl rfl))]; rfl⟩
        | false =>
          obtain rfl := ok.off rfl
          obtain ⟨f1, f2⟩ := ok.dot hcI hx
          by_cases hW : W = []
          · subst hW
            repeat (first | (refine Br.yes q ?_; conv => whnf) | (first | (refine Br.yes (by first | with_reducible rfl | with_reducible exact beq_self_eq_true _ | rfl) ?_; conv => whnf) | (refine Br.no (by first | with_reducible rfl | with_reducible exact bne_self_eq_false _ | rfl) ?_; conv => whnf)))
            refine hp.storeW (vs := Dc.zero.cells) rfl (by repeat (first | exact Rm.here | apply Rm.there)) (by first | exact C2_same _ _ _ _ | exact C4_same _ _ _ _ _ _ _ _ | exact Dc_same _ _ | rfl) rfl rfl rfl ?_
            clear hp
            intro s hp _
            conv => whnf
            refine hp.loadA (l := Dc.zero.cells) (by repeat (first | exact Has.here | apply Has.there | (apply Has.swap; repeat (first | exact HasR.here | apply HasR.there)))) rfl (by rfl) rfl rfl ?_
            conv => whnf
            exact ⟨hp.fr, by rw [show readB ng b = errD 2 from if_pos (f1 rfl)]; rfl⟩
          · have hWl : 0 < W.length := List.length_pos_iff.2 hW
            have q2 : decide ((W.length : Int) > 0) = true := decide_eq_true (by omega)
            repeat (first | (refine Br.yes q ?_; conv => whnf) | (refine Br.yes q2 ?_; conv => whnf) | (first | (refine Br.yes (by first | with_reducible rfl | with_reducible exact beq_self_eq_true _ | rfl) ?_; conv => whnf) | (refine Br.no (by first | with_reducible rfl | with_reducible exact bne_self_eq_false _ | rfl) ?_; conv => whnf)))
            have eh : (0 : Int) = 0 := rfl
            refine Sm.ofW ?_
            conv => whnf
            exact ⟨(i + 1, W, [], true, κ, .slice aR (nL (W ++ [])).length cR), by (show b.length - (i + 1) < b.length - i); omega, subK_ok (by refine ⟨rfl, rfl, rfl, rfl, ?_, ?_, rfl, ?_, trivial⟩ <;> first | rfl | (refine congrArg (fun x => some (Value.int .i64 x)) ?_; first | exact eh | exact ei)), f2 hW, hp.pik (by repeat (first | exact Pik.nil | exact Pik.refl _ | exact Rm.here | apply Rm.there | apply Pik.cons | apply Pik.skip))⟩
      · have q : (((b[i].toNat : Nat) : Int) == 46) = false := beq_eq_false_iff_ne.2 (fun e => hx (UInt8.toNat_inj.1 (by show b[i].toNat = 46; omega)))
        repeat (first | (refine Br.no q ?_; conv => whnf) | (first | (refine Br.yes (by first | with_reducible rfl | with_reducible exact beq_self_eq_true _ | rfl) ?_; conv => whnf) | (refine Br.no (by first | with_reducible rfl | with_reducible exact bne_self_eq_false _ | rfl) ?_; conv => whnf)))
        refine hp.storeW (vs := Dc.zero.cells) rfl (by repeat (first | exact Rm.here | apply Rm.there)) (by first | exact C2_same _ _ _ _ | exact C4_same _ _ _ _ _ _ _ _ | exact Dc_same _ _ | rfl) rfl rfl rfl ?_
        clear hp
        intro s hp _
        conv => whnf
        refine hp.loadA (l := Dc.zero.cells) (by repeat (first | exact Has.here | apply Has.there | (apply Has.swap; repeat (first | exact HasR.here | apply HasR.there)))) rfl (by rfl) rfl rfl ?_
        conv => whnf
        exact ⟨hp.fr, by rw [show readB ng b = errD 2 from if_pos (ok.bad hcI hd (.inr hx))]; rfl⟩
  · have hc : ¬ i < b.length := by have h : ¬ (i : Int) < (b.length : Int) := of_decide_eq_false hc; omega
    obtain rfl : i = b.length := by omega
    have hfin := ok.fin ng
    have hnl : (nL (W ++ R)).length ≤ 39 := by rw [nL_len, List.length_append]; omega
    have hall : ∀ x ∈ W ++ R, isD x = true := fun x hx => by
      rcases List.mem_append.1 hx with g | g
      · exact ok.dW x g
      · exact ok.dR x g
    obtain ⟨t1, t2, t3⟩ := trim_ok _ (nL (W ++ R)) rfl (nL_lt hall)
    rw [Vd_nL] at t2
    conv => whnf
    refine Sm.seqW ?_
    conv => whnf
    refine (trim_spec _ (hp.okF (slA κ v 1 (nL (W ++ R)).length (natI (nL (W ++ R)))) (by simp)) (by omega)).mono ?_
    rintro v6 s6 ⟨rfl, hr6⟩
    obtain ⟨a6, c6, rfl⟩ := hr6.shape
    generalize hT : trimL (nL (W ++ R)) = T at *
    have hz := t1.zero
    rw [t2] at hz
    conv => whnf
    refine Sm.live [2, 4, 5, 6, 7, 8] ?_
    conv => whnf
    refine Sm.seq ?_
    refine Sm.seqC (fun e L' s'' => e = .normal ∧ s'' = s6 ∧ Sub [(2, .pointer (some ⟨p2, 0, none⟩)), (4, .bool ng), (5, .slice a6 T.length c6), (7, .int .i64 ((R.length : Nat) : Int)), (90, .bool (decide (W = [] ∨ (pt = true ∧ R = []) ∨ (ng = true ∧ valD (W ++ R) = 0))))] L') ?_ ?_
    · have key : ∀ bb : Bool, (bb = true ↔ (W.length = 0 ∨ (pt = true ∧ R.length = 0) ∨ (ng = true ∧ T.length = 0))) → bb = decide (W = [] ∨ (pt = true ∧ R = []) ∨ (ng = true ∧ valD (W ++ R) = 0)) := fun bb hbb => by
        rw [Bool.eq_iff_iff, hbb, decide_eq_true_iff, List.length_eq_zero_iff, List.length_eq_zero_iff, hz]
      clear hfin hz hnl hr9 hw30 hp hr6 t1 t2 t3 ok hT
      conv => whnf
      repeat' (first | (refine Br.yes (by first | with_reducible rfl | with_reducible assumption) ?_; conv => whnf) | (refine Br.no (by first | with_reducible rfl | with_reducible assumption) ?_; conv => whnf) | (refine Br.mk (fun hq => ?_) (fun hq => ?_) <;> conv => whnf))
      all_goals refine ⟨rfl, rfl, subK_ok ⟨rfl, rfl, rfl, rfl, congrArg (fun x => some (Value.bool x)) (key _ ?_), trivial⟩⟩
      all_goals (clear key; cases pt <;> cases ng <;> simp [-List.length_eq_zero_iff] at * <;> omega)
    rintro e L' s' ⟨rfl, rfl, hs⟩
    refine Sm.weak _ hs ?_
    clear hs
    refine Sm.ofW ?_
    conv => whnf
    refine Br.mk (fun hc => ?_) (fun hc => ?_)
    · have hc := of_decide_eq_true hc
      rw [if_pos hc] at hfin
      conv => whnf
      refine hp.storeW (vs := Dc.zero.cells) rfl (by repeat (first | exact Rm.here | apply Rm.there)) (by first | exact C2_same _ _ _ _ | exact C4_same _ _ _ _ _ _ _ _ | exact Dc_same _ _ | rfl) rfl rfl rfl ?_
      clear hp
      intro s hp _
      conv => whnf
      refine hp.loadA (l := Dc.zero.cells) (by repeat (first | exact Has.here | apply Has.there | (apply Has.swap; repeat (first | exact HasR.here | apply HasR.there)))) rfl (by rfl) rfl rfl ?_
      conv => whnf
      exact ⟨hp.fr, by rw [hfin]; rfl⟩
    · have hc := of_decide_eq_false hc
      rw [if_neg hc] at hfin
      conv => whnf
      refine Sm.seqW ?_
      conv => whnf
      refine hp.call (make_spec hp.wf ng (l := T) hr6 t1 (by omega) ((R.length : Nat) : Int)) ?_
      clear hp
      rintro _ s rfl hp _
      conv => whnf
      rw [makeF_ok (by omega) (by omega), t2, ← hfin]
      obtain ⟨r, re, hx⟩ := dmade_shape ng (valD (W ++ R)) ((R.length : Nat) : Int)
      rw [← hfin] at hx
      rw [hx]
      conv => whnf
      refine hp.storeW (vs := r.cells) rfl (by repeat (first | exact Rm.here | apply Rm.there)) (by first | exact C2_same _ _ _ _ | exact C4_same _ _ _ _ _ _ _ _ | exact Dc_same _ _ | rfl) rfl rfl rfl ?_
      clear hp
      intro s hp _
      conv => whnf
      refine Sm.ofW ?_
      conv => whnf
      refine hp.loadA (l := r.cells) (by repeat (first | exact Has.here | apply Has.there | (apply Has.swap; repeat (first | exact HasR.here | apply HasR.there)))) rfl (by rfl) rfl rfl ?_
      conv => whnf
      exact ⟨hp.fr, rfl⟩
end Go.Ev
end

/- Labels: bits, Below, Join, Meet, Right, Of. No condition. -/
noncomputable section
namespace Go.Ev
open Go.Proofs
variable [Lk]
set_option linter.unusedSectionVars false
set_option linter.unusedVariables false
set_option maxRecDepth 100000

/-- A label: its members as bits, its level. -/
structure Lb where
  set : Nat
  lev : Int
abbrev Lb.val (a : Lb) : Value := .agg #[.int .u64 (a.set : Int), .int .i64 a.lev]
abbrev Lb.cells (a : Lb) : List Value := [.int .u64 (a.set : Int), .int .i64 a.lev]
def Lb.ok (a : Lb) : Prop := a.set < 18446744073709551616 ∧ inR a.lev
def andn (a b : Nat) : Nat := a &&& (18446744073709551615 - b)
theorem andn_u64 {a b : Nat} (ha : a < 18446744073709551616) (hb : b < 18446744073709551616) :
    IntKind.u64.wrap ((BitVec.ofInt IntKind.u64.bits (a : Int) &&& ~~~ BitVec.ofInt IntKind.u64.bits (b : Int)).toNat : Int) = ((andn a b : Nat) : Int) := by
  have e : IntKind.u64.bits = 64 := rfl
  rw [e, bv_nat, bv_nat, BitVec.toNat_and, BitVec.toNat_not, BitVec.toNat_ofNat, BitVec.toNat_ofNat, wrap_u64, Nat.mod_eq_of_lt (show a < 2 ^ 64 from ha), Nat.mod_eq_of_lt (show b < 2 ^ 64 from hb)]
  have : a &&& (2 ^ 64 - 1 - b) < 2 ^ 64 := Nat.and_lt_two_pow a (by omega)
  rw [Nat.mod_eq_of_lt this]
  rfl
theorem shl1 {P : Program} {t : TypeId} {cst : Bool} {k : Nat} (hk : k < 64) {kk : IntKind} : evBin P .shl t cst (.int .u64 1) (.int kk (k : Int)) = some (.int .u64 ((2 ^ k : Nat) : Int)) := by
  show (match decide ((k : Int) < 0) with
    | true => none
    | false => some (Value.int .u64 (IntKind.u64.wrap (1 * 2 ^ (min (k : Int).toNat IntKind.u64.bits))))) = _
  rw [decide_eq_false (by omega)]
  have e : IntKind.u64.bits = 64 := rfl
  have h2 : 2 ^ k < 2 ^ 64 := Nat.pow_lt_pow_right (by omega) hk
  simp only [e, Int.toNat_natCast, Nat.min_eq_left (Nat.le_of_lt hk), Int.one_mul]
  have := wrap_u64 (2 ^ k)
  rw [Nat.mod_eq_of_lt h2] at this
  rw [← this]
  simp
theorem bit_spec (s : St) {k : Nat} (hk : k < 64) : Cw Tryd.prog 38 [.int .i64 (k : Int)] s fun r s' => s' = s ∧ r = .int .u64 ((2 ^ k : Nat) : Int) := by
  refine Cw.enterS Tryd.func38 rfl rfl ?_
  refine Sm.seqW ?_
  conv => whnf
  refine Sm.live [0] ?_
  conv => whnf
  refine Sm.seqW ?_
  conv => whnf
  have e : IntKind.u64.wrap (k : Int) = (k : Int) := by rw [wrap_u64]; omega
  rw [e]
  refine Om.of _ (shl1 hk) ?_
  conv => whnf
  refine Sm.ofW ?_
  conv => whnf
  exact ⟨rfl, rfl⟩
theorem nb0 (n : Nat) : (((n : Nat) : Int) == 0) = decide (n = 0) := by
  rw [Bool.eq_iff_iff, beq_iff_eq, decide_eq_true_iff]; omega
def belowF (a b : Lb) : Bool := decide (andn a.set b.set = 0) && decide (a.lev ≤ b.lev)
theorem below_spec {z : St} (wf : WF z) {a b : Lb} (ha : a.ok) (hb : b.ok) : Cw Tryd.prog 20 [a.val, b.val] z fun r s' => K0 z s' ∧ r = .bool (belowF a b) := by
  have hp : Hp (fun _ => False) z [] [] z := Hp.start _ wf _ (by simp)
  refine Cw.enterS Tryd.func20 rfl rfl ?_
  refine Sm.seqW ?_
  conv => whnf
  refine hp.var (cs := a.cells) (e := 2) rfl rfl ?_
  clear hp
  intro p2 s hp _
  conv => whnf
  refine hp.var (cs := b.cells) (e := 2) rfl rfl ?_
  clear hp
  intro p3 s hp _
  conv => whnf
  refine Sm.live [2, 3] ?_
  conv => whnf
  refine Sm.seqW ?_
  conv => whnf
  (refine hp.load (by repeat (first | exact Has.here | apply Has.there | (apply Has.swap; repeat (first | exact HasR.here | apply HasR.there)))) (by rfl) rfl rfl rfl ?_; conv => whnf)
  (refine hp.load (by repeat (first | exact Has.here | apply Has.there | (apply Has.swap; repeat (first | exact HasR.here | apply HasR.there)))) (by rfl) rfl rfl rfl ?_; conv => whnf)
  rw [andn_u64 ha.1 hb.1]
  unfold belowF
  by_cases q : andn a.set b.set = 0
  · have hq := (nb0 (andn a.set b.set)).trans (decide_eq_true q)
    repeat (first | (refine Br.yes hq ?_; conv => whnf) | (refine hp.load (by repeat (first | exact Has.here | apply Has.there | (apply Has.swap; repeat (first | exact HasR.here | apply HasR.there)))) (by rfl) rfl rfl rfl ?_; conv => whnf))
    refine Sm.ofW ?_
    conv => whnf
    rw [decide_eq_true q]
    exact ⟨hp.fr, rfl⟩
  · have hq := (nb0 (andn a.set b.set)).trans (decide_eq_false q)
    repeat (first | (refine Br.no hq ?_; conv => whnf) | (refine hp.load (by repeat (first | exact Has.here | apply Has.there | (apply Has.swap; repeat (first | exact HasR.here | apply HasR.there)))) (by rfl) rfl rfl rfl ?_; conv => whnf))
    refine Sm.ofW ?_
    conv => whnf
    rw [decide_eq_false q]
    exact ⟨hp.fr, rfl⟩
def joinF (a b : Lb) : Lb := ⟨a.set ||| b.set, if b.lev > a.lev then b.lev else a.lev⟩
def meetF (a b : Lb) : Lb := ⟨a.set &&& b.set, if b.lev < a.lev then b.lev else a.lev⟩
theorem if_bd (a b : Int) : (match (decide (a > b)) with | true => a | false => b) = if a > b then a else b := by
  by_cases h : a > b
  · rw [decide_eq_true h, if_pos h]
  · rw [decide_eq_false h, if_neg h]
theorem join_spec {z : St} (wf : WF z) {a b : Lb} (ha : a.ok) (hb : b.ok) : Cw Tryd.prog 17 [a.val, b.val] z fun r s' => K0 z s' ∧ r = (joinF a b).val := by
  have hp : Hp (fun _ => False) z [] [] z := Hp.start _ wf _ (by simp)
  refine Cw.enterS Tryd.func17 rfl rfl ?_
  refine Sm.seqW ?_
  conv => whnf
  refine hp.var (cs := a.cells) (e := 2) rfl rfl ?_
  clear hp
  intro p2 s hp _
  conv => whnf
  refine hp.var (cs := b.cells) (e := 2) rfl rfl ?_
  clear hp
  intro p3 s hp _
  conv => whnf
  refine hp.alloc (cs := (Lb.mk 0 0).cells) (e := 2) rfl rfl rfl rfl rfl ?_
  clear hp
  intro p4 s hp _
  conv => whnf
  refine Sm.live [2, 3, 4] ?_
  conv => whnf
  refine Sm.seqW ?_
  conv => whnf
  (refine hp.load (by repeat (first | exact Has.here | apply Has.there | (apply Has.swap; repeat (first | exact HasR.here | apply HasR.there)))) (by rfl) rfl rfl rfl ?_; conv => whnf)
  (refine hp.load (by repeat (first | exact Has.here | apply Has.there | (apply Has.swap; repeat (first | exact HasR.here | apply HasR.there)))) (by rfl) rfl rfl rfl ?_; conv => whnf)
  rw [or_u64 ha.1 hb.1]
  (refine hp.load (by repeat (first | exact Has.here | apply Has.there | (apply Has.swap; repeat (first | exact HasR.here | apply HasR.there)))) (by rfl) rfl rfl rfl ?_; conv => whnf)
  (refine hp.load (by repeat (first | exact Has.here | apply Has.there | (apply Has.swap; repeat (first | exact HasR.here | apply HasR.there)))) (by rfl) rfl rfl rfl ?_; conv => whnf)
  refine hp.storeW (vs := (joinF a b).cells) rfl (by repeat (first | exact Rm.here | apply Rm.there)) (by first | exact C2_same _ _ _ _ | exact C4_same _ _ _ _ _ _ _ _ | exact Dc_same _ _ | rfl) rfl rfl rfl ?_
  clear hp
  intro s hp _
  conv => whnf
  refine Sm.live [4] ?_
  conv => whnf
  refine Sm.ofW ?_
  conv => whnf
  refine hp.loadA (l := (joinF a b).cells) (by repeat (first | exact Has.here | apply Has.there | (apply Has.swap; repeat (first | exact HasR.here | apply HasR.there)))) rfl (by rfl) rfl rfl ?_
  conv => whnf
  exact ⟨hp.fr, rfl⟩
theorem meet_spec {z : St} (wf : WF z) {a b : Lb} (ha : a.ok) (hb : b.ok) : Cw Tryd.prog 18 [a.val, b.val] z fun r s' => K0 z s' ∧ r = (meetF a b).val := by
  have hp : Hp (fun _ => False) z [] [] z := Hp.start _ wf _ (by simp)
  refine Cw.enterS Tryd.func18 rfl rfl ?_
  refine Sm.seqW ?_
  conv => whnf
  refine hp.var (cs := a.cells) (e := 2) rfl rfl ?_
  clear hp
  intro p2 s hp _
  conv => whnf
  refine hp.var (cs := b.cells) (e := 2) rfl rfl ?_
  clear hp
  intro p3 s hp _
  conv => whnf
  refine hp.alloc (cs := (Lb.mk 0 0).cells) (e := 2) rfl rfl rfl rfl rfl ?_
  clear hp
  intro p4 s hp _
  conv => whnf
  refine Sm.live [2, 3, 4] ?_
  conv => whnf
  refine Sm.seqW ?_
  conv => whnf
  (refine hp.load (by repeat (first | exact Has.here | apply Has.there | (apply Has.swap; repeat (first | exact HasR.here | apply HasR.there)))) (by rfl) rfl rfl rfl ?_; conv => whnf)
  (refine hp.load (by repeat (first | exact Has.here | apply Has.there | (apply Has.swap; repeat (first | exact HasR.here | apply HasR.there)))) (by rfl) rfl rfl rfl ?_; conv => whnf)
  rw [and_u64 ha.1 hb.1]
  (refine hp.load (by repeat (first | exact Has.here | apply Has.there | (apply Has.swap; repeat (first | exact HasR.here | apply HasR.there)))) (by rfl) rfl rfl rfl ?_; conv => whnf)
  (refine hp.load (by repeat (first | exact Has.here | apply Has.there | (apply Has.swap; repeat (first | exact HasR.here | apply HasR.there)))) (by rfl) rfl rfl rfl ?_; conv => whnf)
  refine hp.storeW (vs := (meetF a b).cells) rfl (by repeat (first | exact Rm.here | apply Rm.there)) (by first | exact C2_same _ _ _ _ | exact C4_same _ _ _ _ _ _ _ _ | exact Dc_same _ _ | rfl) rfl rfl rfl ?_
  clear hp
  intro s hp _
  conv => whnf
  refine Sm.live [4] ?_
  conv => whnf
  refine Sm.ofW ?_
  conv => whnf
  refine hp.loadA (l := (meetF a b).cells) (by repeat (first | exact Has.here | apply Has.there | (apply Has.swap; repeat (first | exact HasR.here | apply HasR.there)))) rfl (by rfl) rfl rfl ?_
  conv => whnf
  exact ⟨hp.fr, rfl⟩
def rightF (a : Lb) : Bool := decide (a.set < 256) && (decide (0 ≤ a.lev) && decide (a.lev ≤ 3))
theorem lright_spec {z : St} (wf : WF z) {a : Lb} (ha : a.ok) : Cw Tryd.prog 25 [a.val] z fun r s' => K0 z s' ∧ r = .bool (rightF a) := by
  have hp : Hp (fun _ => False) z [] [] z := Hp.start _ wf _ (by simp)
  refine Cw.enterS Tryd.func25 rfl rfl ?_
  refine Sm.seqW ?_
  conv => whnf
  refine hp.var (cs := a.cells) (e := 2) rfl rfl ?_
  clear hp
  intro p1 s hp _
  conv => whnf
  refine Sm.live [1] ?_
  conv => whnf
  refine Sm.seqW ?_
  conv => whnf
  refine ⟨[0, 1, 0, 7, 15, 31, 63, 127, 255, 511, 1023, 2047, 4095, 8191, 16383], by decide +kernel, by decide +kernel, ?_⟩
  conv => whnf
  (refine hp.load (by repeat (first | exact Has.here | apply Has.there | (apply Has.swap; repeat (first | exact HasR.here | apply HasR.there)))) (by rfl) rfl rfl rfl ?_; conv => whnf)
  refine (bit_spec _ (k := 8) (by omega)).mono ?_
  rintro _ s1 ⟨h1, rfl⟩
  obtain rfl := h1.symm
  conv => whnf
  refine hp.dkS ?_
  conv => whnf
  unfold rightF
  by_cases q1 : a.set < 256
  · have h1 : decide (((a.set : Nat) : Int) < (((2 ^ 8 : Nat) : Nat) : Int)) = true := decide_eq_true (by show ((a.set : Nat) : Int) < 256; omega)
    by_cases q2 : 0 ≤ a.lev
    · have h2 : decide (a.lev ≥ 0) = true := decide_eq_true q2
      repeat (first | (refine Br.yes h1 ?_; conv => whnf) | (refine Br.yes h2 ?_; conv => whnf) | (refine hp.load (by repeat (first | exact Has.here | apply Has.there | (apply Has.swap; repeat (first | exact HasR.here | apply HasR.there)))) (by rfl) rfl rfl rfl ?_; conv => whnf))
      refine Sm.ofW ?_
      conv => whnf
      rw [decide_eq_true q1, decide_eq_true q2]
      exact ⟨hp.fr, rfl⟩
    · have h2 : decide (a.lev ≥ 0) = false := decide_eq_false q2
      repeat (first | (refine Br.yes h1 ?_; conv => whnf) | (refine Br.no h2 ?_; conv => whnf) | (refine hp.load (by repeat (first | exact Has.here | apply Has.there | (apply Has.swap; repeat (first | exact HasR.here | apply HasR.there)))) (by rfl) rfl rfl rfl ?_; conv => whnf))
      refine Sm.ofW ?_
      conv => whnf
      rw [decide_eq_true q1, decide_eq_false q2]
      exact ⟨hp.fr, rfl⟩
  · have h1 : decide (((a.set : Nat) : Int) < (((2 ^ 8 : Nat) : Nat) : Int)) = false := decide_eq_false (by show ¬ ((a.set : Nat) : Int) < 256; omega)
    repeat (first | (refine Br.no h1 ?_; conv => whnf) | (refine hp.load (by repeat (first | exact Has.here | apply Has.there | (apply Has.swap; repeat (first | exact HasR.here | apply HasR.there)))) (by rfl) rfl rfl rfl ?_; conv => whnf) | (first | (refine Br.yes (by first | with_reducible rfl | with_reducible exact beq_self_eq_true _ | rfl) ?_; conv => whnf) | (refine Br.no (by first | with_reducible rfl | with_reducible exact bne_self_eq_false _ | rfl) ?_; conv => whnf)))
    refine Sm.ofW ?_
    conv => whnf
    rw [decide_eq_false q1]
    exact ⟨hp.fr, rfl⟩
def levF (l : Int) : Int := if (if 3 < l then 3 else l) > 0 then (if 3 < l then 3 else l) else 0
def ofF (e l : Int) : Lb := ⟨if 0 ≤ e ∧ e < 8 then 2 ^ e.toNat else 0, levF l⟩
theorem of_spec {z : St} (wf : WF z) (e l : Int) : Cw Tryd.prog 24 [.int .i64 e, .int .i64 l] z fun r s' => K0 z s' ∧ r = (ofF e l).val := by
  have hp : Hp (fun _ => False) z [] [] z := Hp.start _ wf _ (by simp)
  refine Cw.enterS Tryd.func24 rfl rfl ?_
  refine Sm.seqW ?_
  conv => whnf
  refine hp.alloc (cs := (Lb.mk 0 0).cells) (e := 2) rfl rfl rfl rfl rfl ?_
  clear hp
  intro p4 s hp _
  conv => whnf
  refine Sm.live [0, 1, 4] ?_
  conv => whnf
  refine Sm.seqW ?_
  conv => whnf
  refine hp.alloc (cs := (Lb.mk 0 0).cells) (e := 2) rfl rfl rfl rfl rfl ?_
  clear hp
  intro p5 s hp _
  conv => whnf
  refine hp.storeW (vs := (Lb.mk 0 (levF l)).cells) rfl (by repeat (first | exact Rm.here | apply Rm.there)) (by first | exact C2_same _ _ _ _ | exact C4_same _ _ _ _ _ _ _ _ | exact Dc_same _ _ | rfl) rfl rfl rfl ?_
  clear hp
  intro s hp _
  conv => whnf
  refine Sm.live [0, 4, 5] ?_
  conv => whnf
  refine Sm.seqW ?_
  conv => whnf
  by_cases q1 : 0 ≤ e
  · have h1 : decide (e ≥ 0) = true := decide_eq_true q1
    by_cases q2 : e < 8
    · have h2 : decide (e < 8) = true := decide_eq_true q2
      repeat (first | (refine Br.yes h1 ?_; conv => whnf) | (refine Br.yes h2 ?_; conv => whnf))
      obtain ⟨k, rfl⟩ : ∃ k : Nat, e = (k : Int) := ⟨e.toNat, by omega⟩
      refine (bit_spec _ (k := k) (by omega)).mono ?_
      rintro _ s1 ⟨h1, rfl⟩
      obtain rfl := h1.symm
      conv => whnf
      have hf : (ofF (k : Int) l) = Lb.mk (2 ^ k) (levF l) := by unfold ofF; rw [if_pos ⟨q1, q2⟩, Int.toNat_natCast]
      (refine hp.store (by repeat (first | exact Rm.here | apply Rm.there)) (by first | exact of_decide_eq_true rfl | (simp; done) | (simp; omega) | omega) rfl rfl rfl rfl ?_; intro s hp _; conv => whnf)
      refine Sm.live [4, 5] ?_
      conv => whnf
      refine Sm.seqW ?_
      conv => whnf
      refine hp.loadA (l := (Lb.mk (2 ^ k) (levF l)).cells) (by repeat (first | exact Has.here | apply Has.there | (apply Has.swap; repeat (first | exact HasR.here | apply HasR.there)))) rfl (by rfl) rfl rfl ?_
      conv => whnf
      refine hp.storeW (vs := (Lb.mk (2 ^ k) (levF l)).cells) rfl (by repeat (first | exact Rm.here | apply Rm.there)) (by first | exact C2_same _ _ _ _ | exact C4_same _ _ _ _ _ _ _ _ | exact Dc_same _ _ | rfl) rfl rfl rfl ?_
      clear hp
      intro s hp _
      conv => whnf
      refine Sm.live [4] ?_
      conv => whnf
      refine Sm.ofW ?_
      conv => whnf
      refine hp.loadA (l := (Lb.mk (2 ^ k) (levF l)).cells) (by repeat (first | exact Has.here | apply Has.there | (apply Has.swap; repeat (first | exact HasR.here | apply HasR.there)))) rfl (by rfl) rfl rfl ?_
      conv => whnf
      exact ⟨hp.fr, by rw [hf]; rfl⟩
    · have h2 : decide (e < 8) = false := decide_eq_false q2
      repeat (first | (refine Br.yes h1 ?_; conv => whnf) | (refine Br.no h2 ?_; conv => whnf))
      have hf : (ofF e l) = Lb.mk 0 (levF l) := by unfold ofF; rw [if_neg (by omega)]
      refine Sm.live [4, 5] ?_
      conv => whnf
      refine Sm.seqW ?_
      conv => whnf
      refine hp.loadA (l := (Lb.mk 0 (levF l)).cells) (by repeat (first | exact Has.here | apply Has.there | (apply Has.swap; repeat (first | exact HasR.here | apply HasR.there)))) rfl (by rfl) rfl rfl ?_
      conv => whnf
      refine hp.storeW (vs := (Lb.mk 0 (levF l)).cells) rfl (by repeat (first | exact Rm.here | apply Rm.there)) (by first | exact C2_same _ _ _ _ | exact C4_same _ _ _ _ _ _ _ _ | exact Dc_same _ _ | rfl) rfl rfl rfl ?_
      clear hp
      intro s hp _
      conv => whnf
      refine Sm.live [4] ?_
      conv => whnf
      refine Sm.ofW ?_
      conv => whnf
      refine hp.loadA (l := (Lb.mk 0 (levF l)).cells) (by repeat (first | exact Has.here | apply Has.there | (apply Has.swap; repeat (first | exact HasR.here | apply HasR.there)))) rfl (by rfl) rfl rfl ?_
      conv => whnf
      exact ⟨hp.fr, by rw [hf]; rfl⟩
  · have h1 : decide (e ≥ 0) = false := decide_eq_false q1
    repeat (first | (refine Br.no h1 ?_; conv => whnf) | (first | (refine Br.yes (by first | with_reducible rfl | with_reducible exact beq_self_eq_true _ | rfl) ?_; conv => whnf) | (refine Br.no (by first | with_reducible rfl | with_reducible exact bne_self_eq_false _ | rfl) ?_; conv => whnf)))
    have hf : (ofF e l) = Lb.mk 0 (levF l) := by unfold ofF; rw [if_neg (by omega)]
    refine Sm.live [4, 5] ?_
    conv => whnf
    refine Sm.seqW ?_
    conv => whnf
    refine hp.loadA (l := (Lb.mk 0 (levF l)).cells) (by repeat (first | exact Has.here | apply Has.there | (apply Has.swap; repeat (first | exact HasR.here | apply HasR.there)))) rfl (by rfl) rfl rfl ?_
    conv => whnf
    refine hp.storeW (vs := (Lb.mk 0 (levF l)).cells) rfl (by repeat (first | exact Rm.here | apply Rm.there)) (by first | exact C2_same _ _ _ _ | exact C4_same _ _ _ _ _ _ _ _ | exact Dc_same _ _ | rfl) rfl rfl rfl ?_
    clear hp
    intro s hp _
    conv => whnf
    refine Sm.live [4] ?_
    conv => whnf
    refine Sm.ofW ?_
    conv => whnf
    refine hp.loadA (l := (Lb.mk 0 (levF l)).cells) (by repeat (first | exact Has.here | apply Has.there | (apply Has.swap; repeat (first | exact HasR.here | apply HasR.there)))) rfl (by rfl) rfl rfl ?_
    conv => whnf
    exact ⟨hp.fr, by rw [hf]; rfl⟩
/-- Members, from k on. -/
def memsF (set : Nat) : List Nat := (List.range 8).filter fun k => decide (set &&& 2 ^ k ≠ 0)
theorem IL : SlT Tryd.prog 32 3 1 8 (.int .i64 0) := ⟨Tryd.underlying32, ⟨_, rfl, rfl, rfl, rfl⟩, rfl, rfl, by decide, by decide⟩
theorem mems_succ (set k : Nat) : ((List.range (k + 1)).filter fun k => decide (set &&& 2 ^ k ≠ 0)) = ((List.range k).filter fun k => decide (set &&& 2 ^ k ≠ 0)) ++ (if set &&& 2 ^ k = 0 then [] else [k]) := by
  rw [List.range_succ, List.filter_append, List.filter_cons, List.filter_nil]
  congr 1
  by_cases h : set &&& 2 ^ k = 0
  · rw [if_pos h]; simp [h]
  · rw [if_neg h]; simp [h]
theorem natI_app (a b : List Nat) : natI (a ++ b) = natI a ++ natI b := by simp [natI]
theorem natI_one (l : List Nat) : (natI l).all (·.oneCell') = true := by simp [natI, Value.oneCell']
theorem members_spec {z : St} (wf : WF z) {a : Lb} (ha : a.ok) : Cw Tryd.prog 21 [a.val] z fun r s' => K0 z s' ∧ OwnN z.next s' r 1 (memsF a.set).length (natI (memsF a.set)) := by
  have hp : Hp (fun _ => False) z [] [] z := Hp.start _ wf _ (by simp)
  refine Cw.enterS Tryd.func21 rfl rfl ?_
  refine Sm.seqW ?_
  conv => whnf
  refine hp.var (cs := a.cells) (e := 2) rfl rfl ?_
  clear hp
  intro p1 s hp _
  conv => whnf
  refine Sm.live [1] ?_
  conv => whnf
  refine Sm.seqW ?_
  conv => whnf
  refine Sm.live [1, 3] ?_
  conv => whnf
  refine Sm.seq ?_
  refine Sm.seqW ?_
  conv => whnf
  refine Sm.live [1, 3, 5] ?_
  conv => whnf
  refine Sm.block ?_
  refine Sm.loop ?_
  refine Lp.ofS (α := Nat × Value) (fun x => [(1, .pointer (some ⟨p1, 0, none⟩)), (3, x.2), (5, .int .i64 (x.1 : Int))])
    (fun x s' => x.1 ≤ 8 ∧ ∃ κ, Hp (fun _ => False) z [] [onA κ x.2 1 ((List.range x.1).filter fun k => decide (a.set &&& 2 ^ k ≠ 0)).length (natI ((List.range x.1).filter fun k => decide (a.set &&& 2 ^ k ≠ 0))), blkA p1 p1 a.cells 2] s')
    (fun x => 8 - x.1) ?_ (0, .slice none 0 0) (subK_ok (by refine ⟨rfl, rfl, rfl, trivial⟩)) ⟨by omega, none, hp.push (.refl hp.wf) ⟨.inl ⟨rfl, rfl, rfl, rfl⟩⟩ (fun j hj => by cases hj)⟩
  clear hp
  rintro ⟨k, v⟩ s ⟨hk, κ, hp⟩
  simp only at hk hp ⊢
  refine Sm.seqW ?_
  conv => whnf
  refine Sm.live [1, 3, 5, 6] ?_
  conv => whnf
  refine Sm.seq ?_
  refine Sm.ofW ?_
  conv => whnf
  refine Br.mk (fun hc => ?_) (fun hc => ?_)
  · have hc := of_decide_eq_true hc
    conv => whnf
    refine Sm.seq (Sm.block ?_)
    refine Sm.seqW ?_
    conv => whnf
    refine Sm.live [1, 3, 4, 5] ?_
    conv => whnf
    refine Sm.seqW ?_
    conv => whnf
    refine ⟨[0, 1, 0, 4, 15, 31], by decide +kernel, by decide +kernel, ?_⟩
    conv => whnf
    (refine hp.load (by repeat (first | exact Has.here | apply Has.there | (apply Has.swap; repeat (first | exact HasR.here | apply HasR.there)))) (by rfl) rfl rfl rfl ?_; conv => whnf)
    refine (bit_spec _ (k := k) (by omega)).mono ?_
    rintro _ s1 ⟨h1, rfl⟩
    obtain rfl := h1.symm
    conv => whnf
    refine hp.dkS ?_
    conv => whnf
    rw [and_u64 ha.1 (Nat.pow_lt_pow_right (by omega) (show k < 64 by omega))]
    refine Sm.live [1, 3, 4, 5, 13] ?_
    conv => whnf
    refine Sm.ofW ?_
    conv => whnf
    have hstep := mems_succ a.set k
    have hw : IntKind.i64.wrap ((k : Int) + 1) = ((k + 1 : Nat) : Int) := by rw [wi64 (by omega) (by omega)]; omega
    by_cases q : a.set &&& 2 ^ k = 0
    · rw [if_pos q, List.append_nil] at hstep
      refine Br.no (decide_eq_false (by omega)) ?_
      conv => whnf
      refine Sm.live [1, 3, 5] ?_
      conv => whnf
      refine Sm.ofW ?_
      conv => whnf
      exact ⟨(k + 1, v), by (show 8 - (k + 1) < 8 - k); omega, subK_ok (by refine ⟨rfl, rfl, congrArg (fun x => some (Value.int .i64 x)) hw, trivial⟩), by (show k + 1 ≤ 8); omega, κ, by (show Hp _ z [] [onA κ v 1 _ (natI ((List.range (k + 1)).filter _)), _] s); rw [hstep]; exact hp⟩
    · rw [if_neg q] at hstep
      refine Br.yes (decide_eq_true (by omega)) ?_
      conv => whnf
      refine hp.one IL rfl ?_
      clear hp
      intro v4 b4 s hp _
      conv => whnf
      have x4 : Sl s (some b4) v4 1 1 [.int .i64 (k : Int)] := Own.sl (hp.okF _ List.mem_cons_self)
      have hlen : ((List.range k).filter fun k => decide (a.set &&& 2 ^ k ≠ 0)).length ≤ k := by have := List.length_filter_le (fun k => decide (a.set &&& 2 ^ k ≠ 0)) (List.range k); simpa using this
      refine hp.app IL Tryd.underlying32 rfl (by repeat (first | exact Rm.here | apply Rm.there)) (elems_sl x4) rfl rfl (by omega) ?_
      clear hp x4
      intro v5 κ5 s hp
      have hnv : natI ((List.range k).filter fun k => decide (a.set &&& 2 ^ k ≠ 0)) ++ [.int .i64 (k : Int)] = natI ((List.range (k + 1)).filter fun k => decide (a.set &&& 2 ^ k ≠ 0)) := by rw [hstep, natI_app]; rfl
      have hln : ((List.range k).filter fun k => decide (a.set &&& 2 ^ k ≠ 0)).length + 1 = ((List.range (k + 1)).filter fun k => decide (a.set &&& 2 ^ k ≠ 0)).length := by rw [hstep]; simp
      rw [hnv, hln] at hp
      conv => whnf
      refine Sm.live [1, 3, 5] ?_
      conv => whnf
      refine Sm.ofW ?_
      conv => whnf
      exact ⟨(k + 1, v5), by (show 8 - (k + 1) < 8 - k); omega, subK_ok (by refine ⟨rfl, rfl, congrArg (fun x => some (Value.int .i64 x)) hw, trivial⟩), by (show k + 1 ≤ 8); omega, κ5, hp.pik (by repeat (first | exact Pik.nil | exact Pik.refl _ | exact Rm.here | apply Rm.there | apply Pik.cons | apply Pik.skip))⟩
  · have hc := of_decide_eq_false hc
    have : k = 8 := by omega
    subst this
    conv => whnf
    refine Sm.seqW ?_
    conv => whnf
    refine Sm.live [2] ?_
    conv => whnf
    refine Sm.ofW ?_
    conv => whnf
    exact ⟨hp.fr, hp.out .here⟩
end Go.Ev
end

/- Labels, as the document has them. No condition. -/
noncomputable section
namespace Go.Ev
open Go.Proofs
variable [Lk]
set_option linter.unusedSectionVars false
set_option linter.unusedVariables false
set_option maxRecDepth 100000

theorem nb1 (n : Nat) : (((n : Nat) : Int) == 1) = decide (n = 1) := by
  rw [Bool.eq_iff_iff, beq_iff_eq, decide_eq_true_iff]; omega
theorem shr_u64k {P : Program} {t : TypeId} {cst : Bool} {n k : Nat} (hn : n < 18446744073709551616) (hk : k < 64) {kk : IntKind} : evBin P .shr t cst (.int .u64 (n : Int)) (.int kk (k : Int)) = some (.int .u64 ((n / 2 ^ k : Nat) : Int)) := by
  show (match decide ((k : Int) < 0) with
    | true => none
    | false => some (Value.int .u64 ((n : Int).fdiv (2 ^ (min (k : Int).toNat IntKind.u64.bits))))) = _
  rw [decide_eq_false (by omega)]
  have e : IntKind.u64.bits = 64 := rfl
  simp only [e, Int.toNat_natCast, Nat.min_eq_left (Nat.le_of_lt hk)]
  rw [Int.fdiv_eq_ediv_of_nonneg _ (by exact_mod_cast Nat.zero_le _)]
  norm_cast
theorem has_spec (s : St) {n k : Nat} (hn : n < 18446744073709551616) (hk : k < 64) : Cw Tryd.prog 44 [.int .u64 (n : Int), .int .i64 (k : Int)] s fun r s' => s' = s ∧ r = .bool (n.testBit k) := by
  refine Cw.enterS Tryd.func44 rfl rfl ?_
  refine Sm.seqW ?_
  conv => whnf
  refine Sm.live [0, 1] ?_
  conv => whnf
  refine Sm.seqW ?_
  conv => whnf
  have h1 : decide ((k : Int) ≥ 0) = true := decide_eq_true (by omega)
  have h2 : decide ((k : Int) < 64) = true := decide_eq_true (by omega)
  have e : IntKind.u64.wrap (k : Int) = (k : Int) := by rw [wrap_u64]; omega
  repeat (first | (refine Br.yes h1 ?_; conv => whnf) | (refine Br.yes h2 ?_; conv => whnf))
  rw [e]
  refine Om.of _ (shr_u64k hn hk) ?_
  conv => whnf
  repeat (first | (refine Br.yes h1 ?_; conv => whnf) | (refine Br.yes h2 ?_; conv => whnf))
  refine Om.of _ (rem_u64 (n := n / 2 ^ k) (m := 2) (by decide)) ?_
  conv => whnf
  repeat (first | (refine Br.yes h1 ?_; conv => whnf) | (refine Br.yes h2 ?_; conv => whnf))
  refine Sm.ofW ?_
  conv => whnf
  refine ⟨rfl, congrArg Value.bool ?_⟩
  rw [Nat.testBit_eq_decide_div_mod_eq]
  exact nb1 _
theorem rright_spec {z : St} (wf : WF z) {a : Lb} (ha : a.ok) : Cw Tryd.prog 30 [a.val] z fun r s' => K0 z s' ∧ r = .bool (rightF a) := by
  have hp : Hp (fun _ => False) z [] [] z := Hp.start _ wf _ (by simp)
  refine Cw.enterS Tryd.func30 rfl rfl ?_
  refine Sm.seqW ?_
  conv => whnf
  refine hp.var (cs := a.cells) (e := 2) rfl rfl ?_
  clear hp
  intro p1 s hp _
  conv => whnf
  refine Sm.live [1] ?_
  conv => whnf
  refine Sm.seqW ?_
  conv => whnf
  (refine hp.load (by repeat (first | exact Has.here | apply Has.there | (apply Has.swap; repeat (first | exact HasR.here | apply HasR.there)))) (by rfl) rfl rfl rfl ?_; conv => whnf)
  unfold rightF
  by_cases q1 : a.set < 256
  · have h1 : decide (((a.set : Nat) : Int) < 256) = true := decide_eq_true (by omega)
    by_cases q2 : 0 ≤ a.lev
    · have h2 : decide (a.lev ≥ 0) = true := decide_eq_true q2
      repeat (first | (refine Br.yes h1 ?_; conv => whnf) | (refine Br.yes h2 ?_; conv => whnf) | (refine hp.load (by repeat (first | exact Has.here | apply Has.there | (apply Has.swap; repeat (first | exact HasR.here | apply HasR.there)))) (by rfl) rfl rfl rfl ?_; conv => whnf))
      refine Sm.ofW ?_
      conv => whnf
      rw [decide_eq_true q1, decide_eq_true q2]
      exact ⟨hp.fr, rfl⟩
    · have h2 : decide (a.lev ≥ 0) = false := decide_eq_false q2
      repeat (first | (refine Br.yes h1 ?_; conv => whnf) | (refine Br.no h2 ?_; conv => whnf) | (refine hp.load (by repeat (first | exact Has.here | apply Has.there | (apply Has.swap; repeat (first | exact HasR.here | apply HasR.there)))) (by rfl) rfl rfl rfl ?_; conv => whnf))
      refine Sm.ofW ?_
      conv => whnf
      rw [decide_eq_true q1, decide_eq_false q2]
      exact ⟨hp.fr, rfl⟩
  · have h1 : decide (((a.set : Nat) : Int) < 256) = false := decide_eq_false (by omega)
    repeat (first | (refine Br.no h1 ?_; conv => whnf) | (refine hp.load (by repeat (first | exact Has.here | apply Has.there | (apply Has.swap; repeat (first | exact HasR.here | apply HasR.there)))) (by rfl) rfl rfl rfl ?_; conv => whnf) | (first | (refine Br.yes (by first | with_reducible rfl | with_reducible exact beq_self_eq_true _ | rfl) ?_; conv => whnf) | (refine Br.no (by first | with_reducible rfl | with_reducible exact bne_self_eq_false _ | rfl) ?_; conv => whnf)))
    refine Sm.ofW ?_
    conv => whnf
    rw [decide_eq_false q1]
    exact ⟨hp.fr, rfl⟩
theorem rjoin_spec {z : St} (wf : WF z) {a b : Lb} (ha : a.ok) (hb : b.ok) : Cw Tryd.prog 32 [a.val, b.val] z fun r s' => K0 z s' ∧ r = (joinF a b).val := by
  have hp : Hp (fun _ => False) z [] [] z := Hp.start _ wf _ (by simp)
  refine Cw.enterS Tryd.func32 rfl rfl ?_
  refine Sm.seqW ?_
  conv => whnf
  refine hp.var (cs := a.cells) (e := 2) rfl rfl ?_
  clear hp
  intro p2 s hp _
  conv => whnf
  refine hp.var (cs := b.cells) (e := 2) rfl rfl ?_
  clear hp
  intro p3 s hp _
  conv => whnf
  refine hp.alloc (cs := (Lb.mk 0 0).cells) (e := 2) rfl rfl rfl rfl rfl ?_
  clear hp
  intro p4 s hp _
  conv => whnf
  refine Sm.live [2, 3, 4] ?_
  conv => whnf
  refine Sm.seqW ?_
  conv => whnf
  (refine hp.load (by repeat (first | exact Has.here | apply Has.there | (apply Has.swap; repeat (first | exact HasR.here | apply HasR.there)))) (by rfl) rfl rfl rfl ?_; conv => whnf)
  (refine hp.load (by repeat (first | exact Has.here | apply Has.there | (apply Has.swap; repeat (first | exact HasR.here | apply HasR.there)))) (by rfl) rfl rfl rfl ?_; conv => whnf)
  rw [or_u64 ha.1 hb.1]
  (refine hp.load (by repeat (first | exact Has.here | apply Has.there | (apply Has.swap; repeat (first | exact HasR.here | apply HasR.there)))) (by rfl) rfl rfl rfl ?_; conv => whnf)
  (refine hp.load (by repeat (first | exact Has.here | apply Has.there | (apply Has.swap; repeat (first | exact HasR.here | apply HasR.there)))) (by rfl) rfl rfl rfl ?_; conv => whnf)
  refine hp.storeW (vs := (joinF a b).cells) rfl (by repeat (first | exact Rm.here | apply Rm.there)) (by first | exact C2_same _ _ _ _ | exact C4_same _ _ _ _ _ _ _ _ | exact Dc_same _ _ | rfl) rfl rfl rfl ?_
  clear hp
  intro s hp _
  conv => whnf
  refine Sm.live [4] ?_
  conv => whnf
  refine Sm.ofW ?_
  conv => whnf
  refine hp.loadA (l := (joinF a b).cells) (by repeat (first | exact Has.here | apply Has.there | (apply Has.swap; repeat (first | exact HasR.here | apply HasR.there)))) rfl (by rfl) rfl rfl ?_
  conv => whnf
  exact ⟨hp.fr, rfl⟩
theorem rmeet_spec {z : St} (wf : WF z) {a b : Lb} (ha : a.ok) (hb : b.ok) : Cw Tryd.prog 33 [a.val, b.val] z fun r s' => K0 z s' ∧ r = (meetF a b).val := by
  have hp : Hp (fun _ => False) z [] [] z := Hp.start _ wf _ (by simp)
  refine Cw.enterS Tryd.func33 rfl rfl ?_
  refine Sm.seqW ?_
  conv => whnf
  refine hp.var (cs := a.cells) (e := 2) rfl rfl ?_
  clear hp
  intro p2 s hp _
  conv => whnf
  refine hp.var (cs := b.cells) (e := 2) rfl rfl ?_
  clear hp
  intro p3 s hp _
  conv => whnf
  refine hp.alloc (cs := (Lb.mk 0 0).cells) (e := 2) rfl rfl rfl rfl rfl ?_
  clear hp
  intro p4 s hp _
  conv => whnf
  refine Sm.live [2, 3, 4] ?_
  conv => whnf
  refine Sm.seqW ?_
  conv => whnf
  (refine hp.load (by repeat (first | exact Has.here | apply Has.there | (apply Has.swap; repeat (first | exact HasR.here | apply HasR.there)))) (by rfl) rfl rfl rfl ?_; conv => whnf)
  (refine hp.load (by repeat (first | exact Has.here | apply Has.there | (apply Has.swap; repeat (first | exact HasR.here | apply HasR.there)))) (by rfl) rfl rfl rfl ?_; conv => whnf)
  rw [and_u64 ha.1 hb.1]
  (refine hp.load (by repeat (first | exact Has.here | apply Has.there | (apply Has.swap; repeat (first | exact HasR.here | apply HasR.there)))) (by rfl) rfl rfl rfl ?_; conv => whnf)
  (refine hp.load (by repeat (first | exact Has.here | apply Has.there | (apply Has.swap; repeat (first | exact HasR.here | apply HasR.there)))) (by rfl) rfl rfl rfl ?_; conv => whnf)
  refine hp.storeW (vs := (meetF a b).cells) rfl (by repeat (first | exact Rm.here | apply Rm.there)) (by first | exact C2_same _ _ _ _ | exact C4_same _ _ _ _ _ _ _ _ | exact Dc_same _ _ | rfl) rfl rfl rfl ?_
  clear hp
  intro s hp _
  conv => whnf
  refine Sm.live [4] ?_
  conv => whnf
  refine Sm.ofW ?_
  conv => whnf
  refine hp.loadA (l := (meetF a b).cells) (by repeat (first | exact Has.here | apply Has.there | (apply Has.swap; repeat (first | exact HasR.here | apply HasR.there)))) rfl (by rfl) rfl rfl ?_
  conv => whnf
  exact ⟨hp.fr, rfl⟩
theorem levF_eq (l : Int) : max 0 (min 3 l) = levF l := by unfold levF; repeat' split; all_goals omega
theorem lrof_spec {z : St} (wf : WF z) (e l : Int) : Cw Tryd.prog 34 [.int .i64 e, .int .i64 l] z fun r s' => K0 z s' ∧ r = (ofF e l).val := by
  have hp : Hp (fun _ => False) z [] [] z := Hp.start _ wf _ (by simp)
  refine Cw.enterS Tryd.func34 rfl rfl ?_
  refine Sm.seqW ?_
  conv => whnf
  refine hp.alloc (cs := (Lb.mk 0 0).cells) (e := 2) rfl rfl rfl rfl rfl ?_
  clear hp
  intro p4 s hp _
  conv => whnf
  refine Sm.live [0, 1, 4] ?_
  conv => whnf
  refine Sm.seqW ?_
  conv => whnf
  refine (within_spec _ l 0 3).mono ?_
  rintro _ s1 ⟨h1, rfl⟩
  obtain rfl := h1.symm
  conv => whnf
  rw [levF_eq]
  refine hp.alloc (cs := (Lb.mk 0 0).cells) (e := 2) rfl rfl rfl rfl rfl ?_
  clear hp
  intro p5 s hp _
  conv => whnf
  refine hp.storeW (vs := (Lb.mk 0 (levF l)).cells) rfl (by repeat (first | exact Rm.here | apply Rm.there)) (by first | exact C2_same _ _ _ _ | exact C4_same _ _ _ _ _ _ _ _ | exact Dc_same _ _ | rfl) rfl rfl rfl ?_
  clear hp
  intro s hp _
  conv => whnf
  refine Sm.live [0, 4, 5] ?_
  conv => whnf
  refine Sm.seqW ?_
  conv => whnf
  by_cases q1 : 0 ≤ e
  · have h1 : decide (e ≥ 0) = true := decide_eq_true q1
    by_cases q2 : e < 8
    · have h2 : decide (e < 8) = true := decide_eq_true q2
      repeat (first | (refine Br.yes h1 ?_; conv => whnf) | (refine Br.yes h2 ?_; conv => whnf))
      obtain ⟨k, rfl⟩ : ∃ k : Nat, e = (k : Int) := ⟨e.toNat, by omega⟩
      have ew : IntKind.u64.wrap (k : Int) = (k : Int) := by rw [wrap_u64]; omega
      rw [ew]
      refine Om.of _ (shl1 (k := k) (by omega)) ?_
      conv => whnf
      have hf : (ofF (k : Int) l) = Lb.mk (2 ^ k) (levF l) := by unfold ofF; rw [if_pos ⟨q1, q2⟩, Int.toNat_natCast]
      (refine hp.store (by repeat (first | exact Rm.here | apply Rm.there)) (by first | exact of_decide_eq_true rfl | (simp; done) | (simp; omega) | omega) rfl rfl rfl rfl ?_; intro s hp _; conv => whnf)
      refine Sm.live [4, 5] ?_
      conv => whnf
      refine Sm.seqW ?_
      conv => whnf
      refine hp.loadA (l := (Lb.mk (2 ^ k) (levF l)).cells) (by repeat (first | exact Has.here | apply Has.there | (apply Has.swap; repeat (first | exact HasR.here | apply HasR.there)))) rfl (by rfl) rfl rfl ?_
      conv => whnf
      refine hp.storeW (vs := (Lb.mk (2 ^ k) (levF l)).cells) rfl (by repeat (first | exact Rm.here | apply Rm.there)) (by first | exact C2_same _ _ _ _ | exact C4_same _ _ _ _ _ _ _ _ | exact Dc_same _ _ | rfl) rfl rfl rfl ?_
      clear hp
      intro s hp _
      conv => whnf
      refine Sm.live [4] ?_
      conv => whnf
      refine Sm.ofW ?_
      conv => whnf
      refine hp.loadA (l := (Lb.mk (2 ^ k) (levF l)).cells) (by repeat (first | exact Has.here | apply Has.there | (apply Has.swap; repeat (first | exact HasR.here | apply HasR.there)))) rfl (by rfl) rfl rfl ?_
      conv => whnf
      exact ⟨hp.fr, by rw [hf]; rfl⟩
    · have h2 : decide (e < 8) = false := decide_eq_false q2
      repeat (first | (refine Br.yes h1 ?_; conv => whnf) | (refine Br.no h2 ?_; conv => whnf))
      have hf : (ofF e l) = Lb.mk 0 (levF l) := by unfold ofF; rw [if_neg (by omega)]
      refine Sm.live [4, 5] ?_
      conv => whnf
      refine Sm.seqW ?_
      conv => whnf
      refine hp.loadA (l := (Lb.mk 0 (levF l)).cells) (by repeat (first | exact Has.here | apply Has.there | (apply Has.swap; repeat (first | exact HasR.here | apply HasR.there)))) rfl (by rfl) rfl rfl ?_
      conv => whnf
      refine hp.storeW (vs := (Lb.mk 0 (levF l)).cells) rfl (by repeat (first | exact Rm.here | apply Rm.there)) (by first | exact C2_same _ _ _ _ | exact C4_same _ _ _ _ _ _ _ _ | exact Dc_same _ _ | rfl) rfl rfl rfl ?_
      clear hp
      intro s hp _
      conv => whnf
      refine Sm.live [4] ?_
      conv => whnf
      refine Sm.ofW ?_
      conv => whnf
      refine hp.loadA (l := (Lb.mk 0 (levF l)).cells) (by repeat (first | exact Has.here | apply Has.there | (apply Has.swap; repeat (first | exact HasR.here | apply HasR.there)))) rfl (by rfl) rfl rfl ?_
      conv => whnf
      exact ⟨hp.fr, by rw [hf]; rfl⟩
  · have h1 : decide (e ≥ 0) = false := decide_eq_false q1
    repeat (first | (refine Br.no h1 ?_; conv => whnf) | (first | (refine Br.yes (by first | with_reducible rfl | with_reducible exact beq_self_eq_true _ | rfl) ?_; conv => whnf) | (refine Br.no (by first | with_reducible rfl | with_reducible exact bne_self_eq_false _ | rfl) ?_; conv => whnf)))
    have hf : (ofF e l) = Lb.mk 0 (levF l) := by unfold ofF; rw [if_neg (by omega)]
    refine Sm.live [4, 5] ?_
    conv => whnf
    refine Sm.seqW ?_
    conv => whnf
    refine hp.loadA (l := (Lb.mk 0 (levF l)).cells) (by repeat (first | exact Has.here | apply Has.there | (apply Has.swap; repeat (first | exact HasR.here | apply HasR.there)))) rfl (by rfl) rfl rfl ?_
    conv => whnf
    refine hp.storeW (vs := (Lb.mk 0 (levF l)).cells) rfl (by repeat (first | exact Rm.here | apply Rm.there)) (by first | exact C2_same _ _ _ _ | exact C4_same _ _ _ _ _ _ _ _ | exact Dc_same _ _ | rfl) rfl rfl rfl ?_
    clear hp
    intro s hp _
    conv => whnf
    refine Sm.live [4] ?_
    conv => whnf
    refine Sm.ofW ?_
    conv => whnf
    refine hp.loadA (l := (Lb.mk 0 (levF l)).cells) (by repeat (first | exact Has.here | apply Has.there | (apply Has.swap; repeat (first | exact HasR.here | apply HasR.there)))) rfl (by rfl) rfl rfl ?_
    conv => whnf
    exact ⟨hp.fr, by rw [hf]; rfl⟩
/-! ### bits -/
theorem and_pow (n k : Nat) : (n &&& 2 ^ k = 0) ↔ n.testBit k = false := by
  constructor
  · intro h
    have := congrArg (fun x => Nat.testBit x k) h
    simpa [Nat.testBit_and, Nat.testBit_two_pow_self] using this
  · intro h
    apply Nat.eq_of_testBit_eq
    intro i
    rw [Nat.testBit_and, Nat.testBit_two_pow, Nat.zero_testBit]
    by_cases hi : k = i
    · subst hi; rw [h]; rfl
    · simp [hi]
theorem mems_eq (set : Nat) : memsF set = (List.range 8).filter fun k => set.testBit k := by
  unfold memsF
  refine List.filter_congr fun k _ => ?_
  cases h : set.testBit k with
  | false => exact decide_eq_false (fun h2 => h2 ((and_pow set k).2 h))
  | true => exact decide_eq_true (fun h2 => by rw [(and_pow set k).1 h2] at h; cases h)
theorem andn_bit {a b : Nat} (hb : b < 18446744073709551616) (k : Nat) (hk : k < 64) : (andn a b).testBit k = (a.testBit k && !b.testBit k) := by
  unfold andn
  rw [Nat.testBit_and]
  have : 18446744073709551615 - b = 2 ^ 64 - (b + 1) := by omega
  rw [this, Nat.testBit_two_pow_sub_succ (show b < 2 ^ 64 from hb)]
  simp [hk]
theorem andn_zero {a b : Nat} (ha : a < 18446744073709551616) (hb : b < 18446744073709551616) : andn a b = 0 ↔ ∀ k, k < 64 → a.testBit k = true → b.testBit k = true := by
  constructor
  · intro h k hk h1
    have := andn_bit (a := a) hb k hk
    rw [h, Nat.zero_testBit, h1] at this
    cases h2 : b.testBit k with
    | true => rfl
    | false => rw [h2] at this; cases this
  · intro h
    apply Nat.eq_of_testBit_eq
    intro i
    rw [Nat.zero_testBit]
    rcases Nat.lt_or_ge i 64 with hi | hi
    · rw [andn_bit hb i hi]
      cases h1 : a.testBit i with
      | false => rfl
      | true => rw [h i hi h1]; rfl
    · refine Nat.testBit_lt_two_pow (Nat.lt_of_le_of_lt Nat.and_le_left (Nat.lt_of_lt_of_le ha ?_))
      have h64 : (2 : Nat) ^ 64 ≤ 2 ^ i := Nat.pow_le_pow_right (by omega) hi
      exact h64
theorem rbelow_spec {z : St} (wf : WF z) {a b : Lb} (ha : a.ok) (hb : b.ok) : Cw Tryd.prog 31 [a.val, b.val] z fun r s' => K0 z s' ∧ r = .bool (belowF a b) := by
  have hp : Hp (fun _ => False) z [] [] z := Hp.start _ wf _ (by simp)
  refine Cw.enterS Tryd.func31 rfl rfl ?_
  refine Sm.seqW ?_
  conv => whnf
  refine hp.var (cs := a.cells) (e := 2) rfl rfl ?_
  clear hp
  intro p2 s hp _
  conv => whnf
  refine hp.var (cs := b.cells) (e := 2) rfl rfl ?_
  clear hp
  intro p3 s hp _
  conv => whnf
  refine Sm.live [2, 3] ?_
  conv => whnf
  refine Sm.seq ?_
  refine Sm.seqW ?_
  conv => whnf
  refine Sm.live [2, 3, 5] ?_
  conv => whnf
  refine Sm.block ?_
  refine Sm.loop ?_
  refine Lp.ofS (α := Nat) (fun k => [(2, .pointer (some ⟨p2, 0, none⟩)), (3, .pointer (some ⟨p3, 0, none⟩)), (5, .int .i64 (k : Int))])
    (fun k s' => k ≤ 64 ∧ s' = s ∧ ∀ i, i < k → a.set.testBit i = true → b.set.testBit i = true)
    (fun k => 64 - k) ?_ 0 (subK_ok (by refine ⟨rfl, rfl, rfl, trivial⟩)) ⟨by omega, rfl, fun i hi => by omega⟩
  rintro k s2 ⟨hk, rfl, hall⟩
  unfold belowF
  refine Sm.seq ?_
  refine Sm.seqW ?_
  conv => whnf
  refine Sm.live [2, 3, 5, 7] ?_
  conv => whnf
  refine Sm.ofW ?_
  conv => whnf
  refine Br.mk (fun hc => ?_) (fun hc => ?_)
  · have hc := of_decide_eq_true hc
    conv => whnf
    refine Sm.seq (Sm.block ?_)
    refine Sm.seqW ?_
    conv => whnf
    have hw : IntKind.i64.wrap ((k : Int) + 1) = ((k + 1 : Nat) : Int) := by rw [wi64 (by omega) (by omega)]; omega
    (refine hp.load (by repeat (first | exact Has.here | apply Has.there | (apply Has.swap; repeat (first | exact HasR.here | apply HasR.there)))) (by rfl) rfl rfl rfl ?_; conv => whnf)
    refine (has_spec _ (n := a.set) (k := k) ha.1 (by omega)).mono ?_
    rintro _ s1 ⟨h1, rfl⟩
    obtain rfl := h1.symm
    conv => whnf
    cases t1 : a.set.testBit k with
    | false =>
      repeat (first | (refine Br.yes (by first | with_reducible rfl | with_reducible exact beq_self_eq_true _ | rfl) ?_; conv => whnf) | (refine Br.no (by first | with_reducible rfl | with_reducible exact bne_self_eq_false _ | rfl) ?_; conv => whnf))
      refine Sm.live [2, 3, 5, 20] ?_
      conv => whnf
      refine Sm.ofW ?_
      conv => whnf
      (first | (refine Br.yes (by first | with_reducible rfl | with_reducible exact beq_self_eq_true _ | rfl) ?_; conv => whnf) | (refine Br.no (by first | with_reducible rfl | with_reducible exact bne_self_eq_false _ | rfl) ?_; conv => whnf))
      refine Sm.live [2, 3, 5] ?_
      conv => whnf
      refine Sm.ofW ?_
      conv => whnf
      refine ⟨k + 1, by (show 64 - (k + 1) < 64 - k); omega, subK_ok (by refine ⟨rfl, rfl, congrArg (fun x => some (Value.int .i64 x)) hw, trivial⟩), by (show k + 1 ≤ 64); omega, rfl, fun i hi h2 => ?_⟩
      rcases Nat.lt_or_ge i k with g | g
      · exact hall i g h2
      · have : i = k := by omega
        subst this; rw [t1] at h2; cases h2
    | true =>
      repeat (first | (first | (refine Br.yes (by first | with_reducible rfl | with_reducible exact beq_self_eq_true _ | rfl) ?_; conv => whnf) | (refine Br.no (by first | with_reducible rfl | with_reducible exact bne_self_eq_false _ | rfl) ?_; conv => whnf)) | (refine hp.load (by repeat (first | exact Has.here | apply Has.there | (apply Has.swap; repeat (first | exact HasR.here | apply HasR.there)))) (by rfl) rfl rfl rfl ?_; conv => whnf))
      refine (has_spec _ (n := b.set) (k := k) hb.1 (by omega)).mono ?_
      rintro _ s1 ⟨h1, rfl⟩
      obtain rfl := h1.symm
      conv => whnf
      cases t2 : b.set.testBit k with
      | false =>
        repeat (first | (refine Br.yes (by first | with_reducible rfl | with_reducible exact beq_self_eq_true _ | rfl) ?_; conv => whnf) | (refine Br.no (by first | with_reducible rfl | with_reducible exact bne_self_eq_false _ | rfl) ?_; conv => whnf))
        refine Sm.live [2, 3, 5, 20] ?_
        conv => whnf
        refine Sm.ofW ?_
        conv => whnf
        (first | (refine Br.yes (by first | with_reducible rfl | with_reducible exact beq_self_eq_true _ | rfl) ?_; conv => whnf) | (refine Br.no (by first | with_reducible rfl | with_reducible exact bne_self_eq_false _ | rfl) ?_; conv => whnf))
        have hn : ¬ andn a.set b.set = 0 := fun h => by
          have := (andn_zero ha.1 hb.1).1 h k (by omega) t1
          rw [t2] at this; cases this
        rw [decide_eq_false hn]
        exact ⟨hp.fr, rfl⟩
      | true =>
        repeat (first | (refine Br.yes (by first | with_reducible rfl | with_reducible exact beq_self_eq_true _ | rfl) ?_; conv => whnf) | (refine Br.no (by first | with_reducible rfl | with_reducible exact bne_self_eq_false _ | rfl) ?_; conv => whnf))
        refine Sm.live [2, 3, 5, 20] ?_
        conv => whnf
        refine Sm.ofW ?_
        conv => whnf
        (first | (refine Br.yes (by first | with_reducible rfl | with_reducible exact beq_self_eq_true _ | rfl) ?_; conv => whnf) | (refine Br.no (by first | with_reducible rfl | with_reducible exact bne_self_eq_false _ | rfl) ?_; conv => whnf))
        refine Sm.live [2, 3, 5] ?_
        conv => whnf
        refine Sm.ofW ?_
        conv => whnf
        refine ⟨k + 1, by (show 64 - (k + 1) < 64 - k); omega, subK_ok (by refine ⟨rfl, rfl, congrArg (fun x => some (Value.int .i64 x)) hw, trivial⟩), by (show k + 1 ≤ 64); omega, rfl, fun i hi h3 => ?_⟩
        rcases Nat.lt_or_ge i k with g | g
        · exact hall i g h3
        · have : i = k := by omega
          subst this; exact t2
  · have hc := of_decide_eq_false hc
    have : k = 64 := by omega
    subst this
    conv => whnf
    refine Sm.seqW ?_
    conv => whnf
    (refine hp.load (by repeat (first | exact Has.here | apply Has.there | (apply Has.swap; repeat (first | exact HasR.here | apply HasR.there)))) (by rfl) rfl rfl rfl ?_; conv => whnf)
    (refine hp.load (by repeat (first | exact Has.here | apply Has.there | (apply Has.swap; repeat (first | exact HasR.here | apply HasR.there)))) (by rfl) rfl rfl rfl ?_; conv => whnf)
    refine Sm.live [4] ?_
    conv => whnf
    refine Sm.ofW ?_
    conv => whnf
    rw [decide_eq_true ((andn_zero ha.1 hb.1).2 hall)]
    exact ⟨hp.fr, rfl⟩
end Go.Ev
end

/- The builder of texts: its memory, what is written to it. No condition. -/
noncomputable section
namespace Go.Ev
open Go.Proofs
variable [Lk]
set_option linter.unusedSectionVars false
set_option linter.unusedVariables false
set_option maxRecDepth 100000

/-- A buffer of bytes, of which it is known that they are. -/
structure Buf (s : St) (κ : Option Nat) (v : Value) (l : List UInt8) (t : Nat) : Prop where
  ex : (v = .slice none 0 0 ∧ l = [] ∧ κ = none) ∨ ∃ k b, κ = some k ∧ v = .slice (some ⟨b, 0, none⟩) l.length l.length ∧ Blk s k b (byteVals l) 1 ∧ Blt s k (byteVals l) 1 t ∧ l ≠ []
theorem Buf.shape {s : St} {κ : Option Nat} {v : Value} {l : List UInt8} {t : Nat} (h : Buf s κ v l t) : ∃ a n c, v = .slice a n c := by
  rcases h.ex with ⟨rfl, _⟩ | ⟨k, b, _, rfl, _⟩
  · exact ⟨_, _, _, rfl⟩
  · exact ⟨_, _, _, rfl⟩
def bufA (κ : Option Nat) (v : Value) (l : List UInt8) (t : Nat) : At where
  foot := fun j => κ = some j
  ok := fun s => Buf s κ v l t
  keep := fun _ _ _ hk hX h => by
    rcases h.ex with g | ⟨k, b, g1, g2, g3, g4⟩
    · exact ⟨.inl g⟩
    · exact ⟨.inr ⟨k, b, g1, g2, hk.blk _ _ _ _ (hX k g1) g3, hk.blt _ _ _ _ (hX k g1) g4.1, g4.2⟩⟩
  lt := fun s wf h j hj => by
    rcases h.ex with g | ⟨k, b, g1, g2, g3, g4⟩
    · rw [g.2.2] at hj; cases hj
    · rw [g1] at hj; injection hj with hj; subst hj; exact g4.1.lt wf
  lo := fun s m h => by
    rcases h.ex with g | ⟨k, b, g1, g2, g3, g4⟩
    · exact ⟨.inl g⟩
    · exact ⟨.inr ⟨k, b, g1, g2, g3.lo m, g4.1.lo m, g4.2⟩⟩
theorem UB : SlT Tryd.prog 28 5 1 1 (.int .u8 0) := ⟨Tryd.underlying28, ⟨_, rfl, rfl, rfl, rfl⟩, rfl, rfl, by decide, by decide⟩
theorem append_buf {P : Program} {t et u by_ : Nat} {z : Value} (T : SlT P t et 1 by_ z) (hd : P.underlying u = some .string) {s : St} (wf : WF s) {κ : Option Nat} {v : Value} {l : List UInt8} (h : Buf s κ v l et) (x : List UInt8)
    (hr : (l.length + x.length + (l.length + x.length) / 4 + 1024) * by_ ≤ 281474976710656) :
    ∃ v' s' κ', evAp P t u v (sv x) s = some (v', s') ∧ Buf s' κ' v' (l ++ x) et ∧ Kp (fun j => κ = some j) s s' ∧ (∀ j, κ' = some j → κ = some j ∨ s.next ≤ j) := by
  obtain ⟨i, hi1, hi2, hi3, hi4⟩ := T.hi
  subst hi3
  have hx : elemsOf s 1 (sv x) = some (x.length, byteVals x) := elems_str s _
  rcases h.ex with ⟨rfl, rfl, rfl⟩ | ⟨k, b, rfl, rfl, hb, ht, hlne⟩
  · by_cases hm : x = []
    · subst hm
      exact ⟨_, s, none, append_nil0 T hd rfl hx, ⟨.inl ⟨rfl, rfl, rfl⟩⟩, .refl wf, fun j h => by cases h⟩
    · have hm2 : x.length ≠ 0 := by simpa using hm
      obtain ⟨g1, g2⟩ := new_kp wf (byteVals x) 1 (ty := et + 1)
      refine ⟨.slice (some ⟨s.next, 0, none⟩) x.length x.length, s.new (byteVals x) 1 (et + 1), some s.next, ?_, ⟨.inr ⟨s.next, s.next, rfl, rfl, g2, new_blt _ _ _ _, hm⟩⟩, g1.weak fun _ h => h.elim, fun j hj => .inr (by injection hj with hj; omega)⟩
      rw [List.length_nil, Nat.zero_add] at hr
      simp only [evAp, evAppend, T.hu, hd, isIntDesc, hi1, hi4, T.hz, T.hzs, hi2, Nat.beq_refl, blt_of T.sz0, blt_of T.by0, hx, byteVals_one, beq_no hm2, roomOk_of hr T.by0]
  · by_cases hm : x = []
    · subst hm
      refine ⟨.slice (some ⟨b, 0, none⟩) l.length l.length, s, some k, ?_, ?_, .refl wf, fun j h => .inl h⟩
      · simp only [evAp, evAppend, T.hu, hd, isIntDesc, hi1, hi4, T.hz, T.hzs, hi2, Nat.beq_refl, blt_of T.sz0, blt_of T.by0, hx, byteVals_one, List.length_nil, Nat.ble_eq_true_of_le (show l.length + 0 ≤ l.length by omega)]
      · rw [List.append_nil]; exact ⟨.inr ⟨k, b, rfl, rfl, hb, ht, hlne⟩⟩
    · have hm2 : 0 < x.length := List.length_pos_iff.2 hm
      obtain ⟨s', hw, hk, hb', hn⟩ := extend_kp (off := 0) (ty := et + 1) wf hb (byteVals l) (byteVals x)
      refine ⟨.slice (some ⟨s.next, 0, none⟩) (l.length + x.length) (l.length + x.length), s', some k, ?_, ⟨.inr ⟨k, s.next, rfl, by rw [List.length_append], ?_, ?_, by simp [hlne]⟩⟩, hk.weak fun j hj => .inl (by rw [hj]), fun j h => .inl h⟩
      · have e1 : Go.Ev.sl (byteVals l) 0 (l.length * 1) = some (byteVals l) := sl_all (by rw [byteVals_length]; omega)
        simp only [evAp, evAppend, T.hu, hd, isIntDesc, hi1, hi4, T.hz, T.hzs, hi2, Nat.beq_refl, blt_of T.sz0, blt_of T.by0, hx, byteVals_one, ble_false (show l.length < l.length + x.length by omega), roomOk_of hr T.by0, hb.rd, hb.esz, e1, hw]
      · rw [byteVals_append]; exact hb'
      · rw [byteVals_append]; exact extend_blt wf ht hb (byteVals l) (byteVals x) hw
section
variable {X : Nat → Prop} {s0 s : St} {R F G : List At} {P : Program} {t : TypeId} {b off e : Nat} {C : List Value} {v : Value} {i : TypeInfo}
theorem Hp.storeT {K : St → Prop} (h : Hp X s0 R F s) {ty : Nat} (m : Rm (tyA b C e ty) F G) (ho : off < C.length) (hi : P.info? t = some i) (hs : i.size = 1) (hc : v.cells = #[v]) (h1 : v.oneCell' = true)
    (hk : ∀ s', Hp X s0 R (tyA b (C.set off v) e ty :: G) s' → s'.low < s.next → K s') : Om (evStore P t (.pointer (some ⟨b, off, none⟩)) v s) K := by
  have hb : Bty s b C e ty := h.okF _ m.sub.1
  obtain ⟨s', g1, g2, g3, g4⟩ := write_kp (off := off) (vs := [v]) h.wf hb.blk (by simp only [List.length_singleton]; omega)
  have g5 := write_blt hb.blt hb.blk g1
  rw [putAt_one v ho] at g3 g5
  refine .of s' ?_ (hk s' (h.upd m g2 (fun j hj => .inl hj) ⟨g3, g5⟩ (fun j hj => .inl hj)) (write_low h.wf hb.blk g1).1)
  simp only [evStore, hi, hc, hs]
  simpa [h1] using g1
theorem Hp.loadTR {K : Value → Prop} {d : TypeDesc} (h : Hp X s0 R F s) {ty : Nat} (m : HasR (tyA b C e ty) R) (hv : C[off]? = some v) (hu : P.underlying t = some d) (hi : P.info? t = some i) (hd : scalarD d = true) (hk : K v) :
    Om (evLoad P t (.pointer (some ⟨b, off, none⟩)) s) K := .of v (load_cell hu hi hd (Blk.rd (Bty.blk (h.okR _ m.mem))) hv) hk
theorem Hp.appT {K : Value × St → Prop} (h : Hp X s0 R F s) {et u by_ : Nat} {z : Value} (T : SlT P t et 1 by_ z) (hd : P.underlying u = some .string) {κ : Option Nat} {l : List UInt8} (m : Rm (bufA κ v l et) F G) (x : List UInt8)
    (hr : (l.length + x.length + (l.length + x.length) / 4 + 1024) * by_ ≤ 281474976710656)
    (hk : ∀ v' κ' s', Hp X s0 R (bufA κ' v' (l ++ x) et :: G) s' → K (v', s')) : Om (evAp P t u v (sv x) s) K := by
  obtain ⟨v', s', κ', g1, g2, g3, g4⟩ := append_buf T hd h.wf (h.okF _ m.sub.1) x hr
  exact .of _ g1 (hk _ _ _ (h.upd m g3 (fun j hj => .inl hj) g2 g4))
end
/-- A builder of texts, and what it holds. -/
structure Bld (s : St) (p : Nat) (κ : Option Nat) (l : List UInt8) : Prop where
  ex : ∃ a v, (a = none ∨ a = some ⟨p, 0, none⟩) ∧ κ ≠ some p ∧ Bty s p [.pointer a, v] 2 78 ∧ Buf s κ v l 5
def bldA (p : Nat) (κ : Option Nat) (l : List UInt8) : At where
  foot := fun j => j = p ∨ κ = some j
  ok := fun s => Bld s p κ l
  keep := fun _ _ _ hk hX h => by
    obtain ⟨a, v, h1, h2, h3, h4⟩ := h.ex
    exact ⟨a, v, h1, h2, (tyA p [.pointer a, v] 2 78).keep _ _ _ hk (fun j hj => hX j (.inl hj)) h3, (bufA κ v l 5).keep _ _ _ hk (fun j hj => hX j (.inr hj)) h4⟩
  lt := fun s wf h j hj => by
    obtain ⟨a, v, h1, h2, h3, h4⟩ := h.ex
    rcases hj with hj | hj
    · exact (tyA p [.pointer a, v] 2 78).lt s wf h3 j hj
    · exact (bufA κ v l 5).lt s wf h4 j hj
  lo := fun s m h => by
    obtain ⟨a, v, h1, h2, h3, h4⟩ := h.ex
    exact ⟨a, v, h1, h2, (tyA p [.pointer a, v] 2 78).lo s m h3, (bufA κ v l 5).lo s m h4⟩
theorem noEsc (s : St) (v : Value) {K : Value → St → Prop} (k : K v s) : Cw Tryd.prog 75 [v] s K :=
  ⟨⟨v, s, k, .inr (.inl ⟨rfl, _, Tryd.func75, rfl, rfl⟩)⟩⟩
theorem copyCheck_spec {z : St} (wf : WF z) {p : Nat} {a : Option Addr} {v : Value} (hb : Bty z p [.pointer a, v] 2 78) (ha : a = none ∨ a = some ⟨p, 0, none⟩) :
    Cw Tryd.prog 57 [.pointer (some ⟨p, 0, none⟩)] z fun r s' => Kp (fun j => j = p) z s' ∧ Bty s' p [.pointer (some ⟨p, 0, none⟩), v] 2 78 ∧ True := by
  have hp : Hp (fun j => j = p) z [] [tyA p [.pointer a, v] 2 78] z := ⟨.refl wf, fun x h => by obtain rfl := List.mem_singleton.1 h; exact hb, fun x h => (by cases h), fun x h k hk => by obtain rfl := List.mem_singleton.1 h; exact .inl hk, List.pairwise_singleton _ _, fun x _ r hr => (by cases hr)⟩
  refine Cw.enterS Tryd.func57 rfl rfl ?_
  refine Sm.seqW ?_
  conv => whnf
  (refine hp.loadT (by repeat (first | exact Has.here | apply Has.there | (apply Has.swap; repeat (first | exact HasR.here | apply HasR.there)))) (v := .pointer a) (by rfl) rfl rfl rfl ?_; conv => whnf)
  rcases ha with rfl | rfl
  · refine Om.of _ (ptr_none Tryd.underlying76) ?_
    conv => whnf
    repeat (first | (refine Br.yes (by first | with_reducible rfl | with_reducible exact beq_self_eq_true _ | rfl) ?_; conv => whnf) | (refine Br.no (by first | with_reducible rfl | with_reducible exact bne_self_eq_false _ | rfl) ?_; conv => whnf))
    refine Sm.live [0, 6] ?_
    conv => whnf
    refine Sm.ofW ?_
    conv => whnf
    repeat (first | (refine Br.yes (by first | with_reducible rfl | with_reducible exact beq_self_eq_true _ | rfl) ?_; conv => whnf) | (refine Br.no (by first | with_reducible rfl | with_reducible exact bne_self_eq_false _ | rfl) ?_; conv => whnf))
    have hb2 : Bty z p [.pointer none, v] 2 78 := hp.okF (tyA p [.pointer none, v] 2 78) (by simp)
    refine Om.of _ (to_unsafe Tryd.underlying76 Tryd.underlying109 rfl (by decide) hb2.blk.rd (by show 0 < 2; decide)) ?_
    conv => whnf
    refine noEsc _ _ ?_
    conv => whnf
    refine Om.of _ (of_unsafe Tryd.underlying109 Tryd.underlying76 rfl (by decide) hb2 (by show 2 ≤ 2; decide)) ?_
    conv => whnf
    refine hp.storeT (by repeat (first | exact Rm.here | apply Rm.there)) (by show 0 < 2; decide) rfl rfl rfl rfl ?_
    clear hp
    intro s hp _
    conv => whnf
    exact ⟨hp.fr, hp.okF _ (List.mem_cons_self ..), trivial⟩
  · refine Om.of _ (ptr_some Tryd.underlying76 _) ?_
    conv => whnf
    repeat (first | (refine Br.yes (by first | with_reducible rfl | with_reducible exact beq_self_eq_true _ | rfl) ?_; conv => whnf) | (refine Br.no (by first | with_reducible rfl | with_reducible exact bne_self_eq_false _ | rfl) ?_; conv => whnf))
    refine Sm.live [0, 6] ?_
    conv => whnf
    refine Sm.ofW ?_
    conv => whnf
    repeat (first | (refine Br.yes (by first | with_reducible rfl | with_reducible exact beq_self_eq_true _ | rfl) ?_; conv => whnf) | (refine Br.no (by first | with_reducible rfl | with_reducible exact bne_self_eq_false _ | rfl) ?_; conv => whnf))
    (refine hp.loadT (by repeat (first | exact Has.here | apply Has.there | (apply Has.swap; repeat (first | exact HasR.here | apply HasR.there)))) (v := .pointer (some ⟨p, 0, none⟩)) (by rfl) rfl rfl rfl ?_; conv => whnf)
    refine Om.of _ (ptr_eq Tryd.underlying76 rfl _) ?_
    conv => whnf
    repeat (first | (refine Br.yes (by first | with_reducible rfl | with_reducible exact beq_self_eq_true _ | rfl) ?_; conv => whnf) | (refine Br.no (by first | with_reducible rfl | with_reducible exact bne_self_eq_false _ | rfl) ?_; conv => whnf))
    exact ⟨hp.fr, hp.okF _ (List.mem_cons_self ..), trivial⟩
theorem write_spec {z : St} (wf : WF z) {p : Nat} {κ : Option Nat} {l : List UInt8} (hb : Bld z p κ l) (t : List UInt8) (hl : l.length + t.length ≤ 1048576) :
    Cw Tryd.prog 41 [.pointer (some ⟨p, 0, none⟩), sv t] z fun r s' => Kp (fun j => j = p ∨ κ = some j) z s' ∧ r = .tuple #[.int .i64 (t.length : Int), .nilIface] ∧ ∃ κ', (∀ j, κ' = some j → κ = some j ∨ z.next ≤ j) ∧ Bld s' p κ' (l ++ t) := by
  obtain ⟨a, v, ha, hκ, h1, h2⟩ := hb.ex
  have hp : Hp (fun j => j = p ∨ κ = some j) z [] [tyA p [.pointer a, v] 2 78, bufA κ v l 5] z := by
    refine ⟨.refl wf, fun x h => ?_, fun x h => (by cases h), fun x h k hk => ?_, ?_, fun x _ r hr => (by cases hr)⟩
    · rcases List.mem_cons.1 h with rfl | h
      · exact h1
      · obtain rfl := List.mem_singleton.1 h; exact h2
    · rcases List.mem_cons.1 h with rfl | h
      · exact .inl (.inl hk)
      · obtain rfl := List.mem_singleton.1 h; exact .inl (.inr hk)
    · rw [List.pairwise_cons]
      refine ⟨fun b hb k hk => ?_, List.pairwise_singleton _ _⟩
      obtain rfl := List.mem_singleton.1 hb
      intro hk2
      exact hκ (by rw [← show k = p from hk]; exact hk2)
  refine Cw.enterS Tryd.func41 rfl rfl ?_
  refine Sm.seqW ?_
  conv => whnf
  refine Sm.live [0, 1] ?_
  conv => whnf
  refine Sm.seqW ?_
  conv => whnf
  refine hp.callU (a := tyA p [.pointer a, v] 2 78) (a' := tyA p [.pointer (some ⟨p, 0, none⟩), v] 2 78) (by repeat (first | exact Rm.here | apply Rm.there)) (fun j hj => .inl hj) (fun j hj => .inl hj) (copyCheck_spec hp.wf h1 ha) ?_
  clear hp
  intro r s _ hp
  conv => whnf
  refine Sm.live [0, 1] ?_
  conv => whnf
  refine Sm.seqW ?_
  conv => whnf
  (refine hp.loadT (by repeat (first | exact Has.here | apply Has.there | (apply Has.swap; repeat (first | exact HasR.here | apply HasR.there)))) (v := v) (by rfl) rfl rfl rfl ?_; conv => whnf)
  refine hp.appT UB Tryd.underlying9 (by repeat (first | exact Rm.here | apply Rm.there)) t (by omega) ?_
  clear hp
  intro v' κ' s hp
  conv => whnf
  have hB : Buf s κ' v' (l ++ t) 5 := hp.okF _ (List.mem_cons_self ..)
  obtain ⟨a', n', c', rfl⟩ := hB.shape
  clear hB
  refine hp.storeT (by repeat (first | exact Rm.here | apply Rm.there)) (by show 1 < 2; decide) rfl rfl rfl rfl ?_
  clear hp
  intro s hp _
  conv => whnf
  refine Sm.live [0, 1] ?_
  conv => whnf
  refine Sm.seqW ?_
  conv => whnf
  refine Sm.ofW ?_
  conv => whnf
  have hne : κ' ≠ some p := (List.pairwise_cons.1 hp.dj).1 _ (List.mem_singleton_self _) p rfl
  refine ⟨hp.fr, rfl, κ', fun j hj => ?_, ⟨some ⟨p, 0, none⟩, .slice a' n' c', .inr rfl, hne, hp.okF _ (List.mem_cons_self ..), hp.okF (bufA κ' (.slice a' n' c') (l ++ t) 5) (by simp)⟩⟩
  rcases hp.own (bufA κ' (.slice a' n' c') (l ++ t) 5) (by simp) j hj with (g | g) | g
  · exact absurd (by rw [← g]; exact hj) hne
  · exact .inl g
  · exact .inr g
theorem string_spec {z : St} (wf : WF z) {p : Nat} {κ : Option Nat} {l : List UInt8} (hb : Bld z p κ l) (hl : l.length ≤ 1048576) :
    Cw Tryd.prog 43 [.pointer (some ⟨p, 0, none⟩)] z fun r s' => Kp (fun j => κ = some j) z s' ∧ r = sv l := by
  obtain ⟨a, v, ha, hκ, h1, h2⟩ := hb.ex
  have hp : Hp (fun j => κ = some j) z [tyA p [.pointer a, v] 2 78] [bufA κ v l 5] z := by
    refine ⟨.refl wf, fun x h => ?_, fun x h => ?_, fun x h k hk => ?_, List.pairwise_singleton _ _, fun x h r hr k hk hk2 => ?_⟩
    · obtain rfl := List.mem_singleton.1 h; exact h2
    · obtain rfl := List.mem_singleton.1 h; exact h1
    · obtain rfl := List.mem_singleton.1 h; exact .inl hk
    · obtain rfl := List.mem_singleton.1 h
      obtain rfl := List.mem_singleton.1 hr
      exact hκ (by rw [← show k = p from hk2]; exact hk)
  refine Cw.enterS Tryd.func43 rfl rfl ?_
  refine Sm.seqW ?_
  conv => whnf
  refine Sm.live [0] ?_
  conv => whnf
  refine Sm.seqW ?_
  conv => whnf
  refine ⟨[0, 1, 3, 7, 15, 0, 32, 96, 224, 480, 1023, 2047], by decide +kernel, by decide +kernel, ?_⟩
  conv => whnf
  (refine hp.loadTR (by first | exact HasR.here) (v := v) (by rfl) rfl rfl rfl ?_; conv => whnf)
  have hB : Buf z κ v l 5 := h2
  rcases hB.ex with ⟨rfl, rfl, rfl⟩ | ⟨k, b, rfl, rfl, g1, g2, g3⟩
  · refine Om.of (.pointer none) rfl ?_
    conv => whnf
    refine hp.dkS ?_
    conv => whnf
    (refine hp.loadTR (by first | exact HasR.here) (v := .slice none 0 0) (by rfl) rfl rfl rfl ?_; conv => whnf)
    refine Om.of _ (unsafe_str0 Tryd.underlying90 _) ?_
    conv => whnf
    refine hp.dkS ?_
    conv => whnf
    refine Sm.live [2] ?_
    conv => whnf
    refine Sm.ofW ?_
    conv => whnf
    exact ⟨hp.fr, rfl⟩
  · obtain ⟨m, hm⟩ : ∃ m, l.length = m + 1 := ⟨l.length - 1, by have := List.length_pos_iff.2 g3; omega⟩
    refine Om.of (.pointer (some ⟨b, 0, none⟩)) (by rw [hm]; rfl) ?_
    conv => whnf
    refine hp.dkS ?_
    conv => whnf
    (refine hp.loadTR (by first | exact HasR.here) (v := .slice (some ⟨b, 0, none⟩) l.length l.length) (by rfl) rfl rfl rfl ?_; conv => whnf)
    obtain ⟨s', u1, u2⟩ := unsafe_str (it := 3) Tryd.underlying90 (i := _) (rfl : Tryd.prog.info? 5 = some _) rfl hp.rst.wf g1.reset g2.reset g3 (by omega)
    refine Om.of _ u1 ?_
    conv => whnf
    have h9 := hp.rst.upd (a' := bufA none (.slice none 0 0) [] 5) Rm.here u2 (fun j hj => .inl (by rw [hj]; rfl)) ⟨.inl ⟨rfl, rfl, rfl⟩⟩ (fun j hj => by cases hj)
    refine hp.dkA h9 ?_ ?_
    · intro s2 hp
      conv => whnf
      refine Sm.live [2] ?_
      conv => whnf
      refine Sm.ofW ?_
      conv => whnf
      exact ⟨hp.fr, rfl⟩
    · intro s2 hp
      conv => whnf
      refine Sm.live [2] ?_
      conv => whnf
      refine Sm.ofW ?_
      conv => whnf
      exact ⟨hp.fr, rfl⟩
end Go.Ev
end

/- Itoa of a digit. No condition. -/
noncomputable section
namespace Go.Ev
open Go.Proofs
variable [Lk]
set_option linter.unusedSectionVars false
set_option linter.unusedVariables false
set_option maxRecDepth 100000

def dgt (n : Nat) : UInt8 := UInt8.ofNat (48 + n)
theorem digs36 : ∀ n, n < 10 → ((([48, 49, 50, 51, 52, 53, 54, 55, 56, 57, 97, 98, 99, 100, 101, 102, 103, 104, 105, 106, 107, 108, 109, 110, 111, 112, 113, 114, 115, 116, 117, 118, 119, 120, 121, 122] : List UInt8).drop n).take (n + 1 - n)) = [dgt n] := by decide +kernel
theorem ismall_spec (s : St) {n : Nat} (hn : n < 10) : Cw Tryd.prog 94 [.int .i64 (n : Int)] s fun r s' => s' = s ∧ r = sv [dgt n] := by
  refine Cw.enterS Tryd.func94 rfl rfl ?_
  refine Sm.seqW ?_
  conv => whnf
  refine Sm.live [0, 2] ?_
  conv => whnf
  refine Sm.seq ?_
  refine Sm.seqW ?_
  conv => whnf
  refine Sm.ofW ?_
  conv => whnf
  refine Br.yes (decide_eq_true (by omega)) ?_
  conv => whnf
  have e : IntKind.i64.wrap ((n : Int) + 1) = ((n + 1 : Nat) : Int) := by rw [wi64 (by omega) (by omega)]; omega
  rw [e]
  refine Om.of _ (str_slice Tryd.underlying9 (l := [48, 49, 50, 51, 52, 53, 54, 55, 56, 57, 97, 98, 99, 100, 101, 102, 103, 104, 105, 106, 107, 108, 109, 110, 111, 112, 113, 114, 115, 116, 117, 118, 119, 120, 121, 122]) .i64 .i64 (some n) (some (n + 1)) (by simp only [Option.getD_some]; omega) (by simp only [Option.getD_some, List.length_cons, List.length_nil]; omega)) ?_
  conv => whnf
  exact ⟨rfl, congrArg sv (digs36 n hn)⟩
theorem fmtInt_spec (s : St) {n : Nat} (hn : n < 10) : Cw Tryd.prog 76 [.int .i64 (n : Int), .int .i64 10] s fun r s' => s' = s ∧ r = sv [dgt n] := by
  refine Cw.enterS Tryd.func76 rfl rfl ?_
  refine Sm.seqW ?_
  conv => whnf
  refine Sm.live [0, 1, 4] ?_
  conv => whnf
  refine Sm.seq ?_
  refine Sm.seqW ?_
  conv => whnf
  refine Sm.ofW ?_
  conv => whnf
  have h1 : decide ((0 : Int) ≤ (n : Int)) = true := decide_eq_true (by omega)
  have h2 : decide ((n : Int) < 100) = true := decide_eq_true (by omega)
  repeat (first | (refine Br.yes h1 ?_; conv => whnf) | (refine Br.yes h2 ?_; conv => whnf) | (first | (refine Br.yes (by first | with_reducible rfl | with_reducible exact beq_self_eq_true _ | rfl) ?_; conv => whnf) | (refine Br.no (by first | with_reducible rfl | with_reducible exact bne_self_eq_false _ | rfl) ?_; conv => whnf)))
  refine (ismall_spec _ hn).mono ?_
  rintro _ s1 ⟨h1, rfl⟩
  obtain rfl := h1.symm
  conv => whnf
  exact ⟨rfl, rfl⟩
theorem iitoa_spec (s : St) {n : Nat} (hn : n < 10) : Cw Tryd.prog 58 [.int .i64 (n : Int)] s fun r s' => s' = s ∧ r = sv [dgt n] := by
  refine Cw.enterS Tryd.func58 rfl rfl ?_
  refine Sm.seqW ?_
  conv => whnf
  refine Sm.seqW ?_
  conv => whnf
  refine (fmtInt_spec _ hn).mono ?_
  rintro _ s1 ⟨h1, rfl⟩
  obtain rfl := h1.symm
  conv => whnf
  refine Sm.ofW ?_
  conv => whnf
  exact ⟨rfl, rfl⟩
theorem itoa_spec (s : St) {n : Nat} (hn : n < 10) : Cw Tryd.prog 42 [.int .i64 (n : Int)] s fun r s' => s' = s ∧ r = sv [dgt n] := by
  refine Cw.enterS Tryd.func42 rfl rfl ?_
  refine Sm.seqW ?_
  conv => whnf
  refine Sm.seqW ?_
  conv => whnf
  refine (iitoa_spec _ hn).mono ?_
  rintro _ s1 ⟨h1, rfl⟩
  obtain rfl := h1.symm
  conv => whnf
  refine Sm.ofW ?_
  conv => whnf
  exact ⟨rfl, rfl⟩
end Go.Ev
end

/- Print of a label. No condition. -/
noncomputable section
namespace Go.Ev
open Go.Proofs
variable [Lk]
set_option linter.unusedSectionVars false
set_option linter.unusedVariables false
set_option maxRecDepth 100000

def lprintF (a : Lb) : List UInt8 := if rightF a = true then dgt a.lev.toNat :: 58 :: (memsF a.set).map dgt else []
theorem memsF_lt {n k : Nat} (h : k ∈ memsF n) : k < 8 := List.mem_range.1 (List.mem_filter.1 h).1
theorem memsF_len (n : Nat) : (memsF n).length ≤ 8 := by
  have := List.length_filter_le (fun k => decide (n &&& 2 ^ k ≠ 0)) (List.range 8)
  rw [List.length_range] at this
  exact this
section
variable {X : Nat → Prop} {s0 s : St} {R F G : List At} {p : Nat} {κ : Option Nat} {l : List UInt8}
theorem Hp.bldNew (h : Hp X s0 R F s) (m : Rm (tyA p [.pointer none, .slice none 0 0] 2 78) F G) : Hp X s0 R (bldA p none [] :: G) s :=
  h.upd m (Y := fun _ => False) (.refl h.wf) (fun j hj => hj.elim) ⟨none, .slice none 0 0, .inl rfl, by simp, h.okF _ m.sub.1, ⟨.inl ⟨rfl, rfl, rfl⟩⟩⟩ (fun j hj => by
    rcases hj with hj | hj
    · exact .inl hj
    · cases hj)
theorem Hp.bldW {K : Value → St → Prop} (h : Hp X s0 R F s) (m : Rm (bldA p κ l) F G) (t : List UInt8) (hl : l.length + t.length ≤ 1048576)
    (k : ∀ κ' s', Hp X s0 R (bldA p κ' (l ++ t) :: G) s' → K (.tuple #[.int .i64 (t.length : Int), .nilIface]) s') : Cw Tryd.prog 41 [.pointer (some ⟨p, 0, none⟩), sv t] s K := by
  refine (write_spec h.wf (h.okF _ m.sub.1) t hl).mono ?_
  rintro _ s' ⟨k1, rfl, κ', k2, k3⟩
  exact k κ' s' (h.upd m k1 (fun j hj => .inl hj) k3 (fun j hj => by
    rcases hj with hj | hj
    · exact .inl (.inl hj)
    · rcases k2 j hj with g | g
      · exact .inl (.inr g)
      · exact .inr g))
end
theorem lprint_spec {z : St} (wf : WF z) {a : Lb} (ha : a.ok) : Cw Tryd.prog 23 [a.val] z fun r s' => K0 z s' ∧ r = sv (lprintF a) := by
  have hp : Hp (fun _ => False) z [] [] z := Hp.start _ wf _ (by simp)
  refine Cw.enterS Tryd.func23 rfl rfl ?_
  refine Sm.seqW ?_
  conv => whnf
  refine hp.var (cs := a.cells) (e := 2) rfl rfl ?_
  clear hp
  intro p1 s hp _
  conv => whnf
  refine Sm.live [1, 2] ?_
  conv => whnf
  refine Sm.seq ?_
  refine Sm.seqW ?_
  conv => whnf
  refine hp.loadA (l := a.cells) (by repeat (first | exact Has.here | apply Has.there | (apply Has.swap; repeat (first | exact HasR.here | apply HasR.there)))) rfl (by rfl) rfl rfl ?_
  conv => whnf
  refine hp.call (lright_spec hp.wf ha) ?_
  clear hp
  rintro _ s rfl hp _
  conv => whnf
  repeat (first | (refine Br.yes (by first | with_reducible rfl | with_reducible exact beq_self_eq_true _ | rfl) ?_; conv => whnf) | (refine Br.no (by first | with_reducible rfl | with_reducible exact bne_self_eq_false _ | rfl) ?_; conv => whnf))
  refine Sm.live [1, 2, 8] ?_
  conv => whnf
  refine Sm.ofW ?_
  conv => whnf
  unfold lprintF
  cases hr : rightF a with
  | false =>
    repeat (first | (refine Br.yes (by first | with_reducible rfl | with_reducible exact beq_self_eq_true _ | rfl) ?_; conv => whnf) | (refine Br.no (by first | with_reducible rfl | with_reducible exact bne_self_eq_false _ | rfl) ?_; conv => whnf))
    exact ⟨hp.fr, rfl⟩
  | true =>
    repeat (first | (refine Br.yes (by first | with_reducible rfl | with_reducible exact beq_self_eq_true _ | rfl) ?_; conv => whnf) | (refine Br.no (by first | with_reducible rfl | with_reducible exact bne_self_eq_false _ | rfl) ?_; conv => whnf))
    have hlev : 0 ≤ a.lev ∧ a.lev ≤ 3 := by
      unfold rightF at hr
      simp at hr
      exact hr.2
    obtain ⟨n, hn⟩ : ∃ n : Nat, a.lev = (n : Int) := ⟨a.lev.toNat, by omega⟩
    have hn3 : n ≤ 3 := by omega
    rw [show a.lev.toNat = n by omega]
    refine Sm.seqW ?_
    conv => whnf
    refine hp.allocT (cs := [.pointer none, .slice none 0 0]) (e := 2) rfl rfl rfl rfl rfl ?_
    clear hp
    intro pb s hp _
    replace hp := hp.bldNew (by repeat (first | exact Rm.here | apply Rm.there))
    conv => whnf
    refine Sm.live [1, 3] ?_
    conv => whnf
    refine Sm.seqW ?_
    conv => whnf
    refine hp.load (v := .int .i64 a.lev) (by repeat (first | exact Has.here | apply Has.there | (apply Has.swap; repeat (first | exact HasR.here | apply HasR.there)))) (by rfl) rfl rfl rfl ?_
    conv => whnf
    rw [hn]
    refine (itoa_spec _ (show n < 10 by omega)).mono ?_
    rintro _ s1 ⟨h1, rfl⟩
    obtain rfl := h1.symm
    conv => whnf
    refine Om.of _ (str_add ⟨[dgt n].toArray⟩ ⟨#[58]⟩ (by show 1 + 1 ≤ 281474976710656; decide)) ?_
    conv => whnf
    refine hp.bldW (by repeat (first | exact Rm.here | apply Rm.there)) [dgt n, 58] (by simp) ?_
    clear hp
    intro κ s hp
    conv => whnf
    refine Sm.live [1, 3] ?_
    conv => whnf
    refine Sm.seq ?_
    refine Sm.seqW ?_
    conv => whnf
    refine hp.loadA (l := a.cells) (by repeat (first | exact Has.here | apply Has.there | (apply Has.swap; repeat (first | exact HasR.here | apply HasR.there)))) rfl (by rfl) rfl rfl ?_
    conv => whnf
    refine hp.callO (members_spec hp.wf ha) ?_
    clear hp
    intro w κw s hp _
    obtain ⟨aw, cw, rfl⟩ := (hp.slF (κ := κw) (v := w) (by repeat (first | exact Rm.here | apply Rm.there))).shape
    conv => whnf
    refine Sm.live [3, 15, 16, 17] ?_
    conv => whnf
    refine Sm.block ?_
    refine Sm.loop ?_
    refine Lp.ofS (α := Nat) (fun i => [(3, .pointer (some ⟨pb, 0, none⟩)), (15, .slice aw (memsF a.set).length cw), (16, .int .i64 (((memsF a.set).length : Nat) : Int)), (17, .int .i64 (i : Int))])
      (fun i s' => i ≤ (memsF a.set).length ∧ ∃ κ, Hp (fun _ => False) z [] [bldA pb κ (dgt n :: 58 :: ((memsF a.set).take i).map dgt), onA κw (.slice aw (memsF a.set).length cw) 1 (memsF a.set).length (natI (memsF a.set))] s') (fun i => (memsF a.set).length - i) ?_ 0 (subK_ok (by refine ⟨rfl, rfl, rfl, rfl, trivial⟩)) ⟨Nat.zero_le _, κ, hp.pik (by repeat (first | exact Pik.nil | exact Pik.refl _ | exact Rm.here | apply Rm.there | apply Pik.cons | apply Pik.skip))⟩
    clear hp
    rintro i s ⟨hi, κ, hp⟩
    have hml := memsF_len a.set
    refine Sm.seqW ?_
    conv => whnf
    refine Sm.live [3, 15, 16, 17, 18] ?_
    conv => whnf
    refine Sm.seq ?_
    refine Sm.ofW ?_
    conv => whnf
    refine Br.mk (fun hq => ?_) (fun hq => ?_)
    · have hq : i < (memsF a.set).length := by have : (i : Int) < ((memsF a.set).length : Int) := of_decide_eq_true hq; omega
      obtain ⟨p, y, e1, e2, e3, _, rfl⟩ := index_sl IL Tryd.underlying3 rfl (hp.slF (κ := κw) (v := .slice aw (memsF a.set).length cw) (by repeat (first | exact Rm.here | apply Rm.there))) .i64 hq
      have e4 : y = .int .i64 (((memsF a.set)[i] : Nat) : Int) := by
        unfold natI at e2
        rw [List.getElem?_map, List.getElem?_eq_getElem hq] at e2
        injection e2 with e2; exact e2.symm
      subst e4
      have hk8 : (memsF a.set)[i] < 8 := memsF_lt (List.getElem_mem hq)
      conv => whnf
      refine Sm.seq (Sm.mono (Q := fun e L' s' => e = .normal ∧ (∃ κ, Hp (fun _ => False) z [] [bldA pb κ (dgt n :: 58 :: ((memsF a.set).take (i + 1)).map dgt), onA κw (.slice aw (memsF a.set).length cw) 1 (memsF a.set).length (natI (memsF a.set))] s') ∧ Sub [(3, .pointer (some ⟨pb, 0, none⟩)), (15, .slice aw (memsF a.set).length cw), (16, .int .i64 (((memsF a.set).length : Nat) : Int)), (17, .int .i64 (i : Int))] L') ?_ ?_)
      · refine Sm.block ?_
        refine Sm.seqW ?_
        conv => whnf
        refine Om.of _ (e1) ?_
        conv => whnf
        refine Om.of _ (e3) ?_
        conv => whnf
        refine Sm.live [3, 5, 15, 16, 17] ?_
        conv => whnf
        refine Sm.ofW ?_
        conv => whnf
        refine (itoa_spec _ (show (memsF a.set)[i] < 10 by omega)).mono ?_
        rintro _ s1 ⟨h1, rfl⟩
        obtain rfl := h1.symm
        conv => whnf
        refine hp.bldW (by repeat (first | exact Rm.here | apply Rm.there)) [dgt (memsF a.set)[i]] (by simp; omega) ?_
        clear hp
        intro κ s hp
        conv => whnf
        have e5 : (dgt n :: 58 :: ((memsF a.set).take i).map dgt) ++ [dgt (memsF a.set)[i]] = dgt n :: 58 :: ((memsF a.set).take (i + 1)).map dgt := by
          rw [List.take_add_one, List.getElem?_eq_getElem hq, List.map_append]; rfl
        rw [e5] at hp
        exact ⟨rfl, ⟨κ, hp⟩, subK_ok ⟨rfl, rfl, rfl, rfl, trivial⟩⟩
      · clear hp
        rintro e L' s ⟨rfl, ⟨κ, hp⟩, hs⟩
        refine Sm.weak _ hs ?_
        clear hs
        refine Sm.ofW ?_
        conv => whnf
        exact ⟨i + 1, by (show (memsF a.set).length - (i + 1) < (memsF a.set).length - i); omega, subK_ok (by refine ⟨rfl, rfl, rfl, congrArg (fun x => some (Value.int .i64 x)) (show IntKind.i64.wrap ((i : Int) + 1) = ((i + 1 : Nat) : Int) by rw [wi64 (by omega) (by omega)]; omega), trivial⟩), by omega, κ, hp⟩
    · have hq : i = (memsF a.set).length := by have := of_decide_eq_false hq; omega
      subst hq
      rw [List.take_length] at hp
      conv => whnf
      refine Sm.seqW ?_
      conv => whnf
      refine (string_spec hp.wf (hp.okF (bldA pb κ (dgt n :: 58 :: (memsF a.set).map dgt)) (by simp)) (by simp; omega)).mono ?_
      rintro _ s1 ⟨g1, rfl⟩
      have g2 : K0 z s1 := hp.fr.trans g1 fun j hj => .inr (by
        rcases hp.own (bldA pb κ (dgt n :: 58 :: (memsF a.set).map dgt)) (by simp) j (.inr hj) with g | g
        · exact g.elim
        · exact g)
      conv => whnf
      refine Sm.ofW ?_
      conv => whnf
      exact ⟨g2, rfl⟩
end Go.Ev
end

/- Clone; the errors of Atoi. No condition. -/
noncomputable section
namespace Go.Ev
open Go.Proofs
variable [Lk]
set_option linter.unusedSectionVars false
set_option linter.unusedVariables false
set_option maxRecDepth 100000

section
variable {X : Nat → Prop} {s0 s : St} {R F G : List At} {P : Program} {t : TypeId} {b : Nat} {C : List Value}
theorem Hp.copyT {K : Value × St → Prop} (h : Hp X s0 R F s) {et by_ ty : Nat} {z : Value} (T : SlT P t et 1 by_ z) (m : Rm (tyA b C 1 ty) F G) (l : List UInt8) (hC : C.length = l.length)
    (hk : ∀ s', Hp X s0 R (tyA b (byteVals l) 1 ty :: G) s' → K (.int .i64 (l.length : Int), s')) : Om (evCopy P t (.slice (some ⟨b, 0, none⟩) l.length l.length) (sv l) s) K := by
  obtain ⟨i, hi1, hi2, hi3, hi4⟩ := T.hi
  have hb : Bty s b C 1 ty := h.okF _ m.sub.1
  obtain ⟨s', g1, g2, g3, g4⟩ := write_kp (off := 0) (vs := byteVals l) h.wf hb.blk (by rw [byteVals_length]; omega)
  have g5 := write_blt hb.blt hb.blk g1
  have e : putAt C 0 (byteVals l) = byteVals l := by
    unfold putAt
    rw [List.take_zero, List.nil_append, Nat.zero_add, byteVals_length, ← hC, List.drop_length, List.append_nil]
  rw [e] at g3 g5
  have hf : firstOf s 1 (Nat.min l.length l.length) (sv l) = some (byteVals l) := by
    show some (byteVals (l.take (Nat.min l.length l.length))) = _
    rw [show Nat.min l.length l.length = l.length from Nat.min_self _, List.take_length]
  have hmin : Nat.min l.length l.length = l.length := Nat.min_self _
  cases hl : byteVals l with
  | nil =>
    have hl0 : l = [] := by
      have := congrArg List.length hl; rw [byteVals_length] at this; simpa using this
    refine .of (.int .i64 (l.length : Int), s) ?_ (hk s ?_)
    · simp only [evCopy, T.hu, hi1, hi2, bs_mk, hf, hl]
      rw [hmin]
    · have hC0 : C = [] := List.length_eq_zero_iff.1 (by rw [hC, hl0]; rfl)
      rw [hl, ← hC0]
      exact h.upd (Y := fun _ => False) m (.refl h.wf) (fun j hj => hj.elim) hb (fun j hj => .inl hj)
  | cons w ws =>
    refine .of (.int .i64 (l.length : Int), s') ?_ (hk s' (h.upd m g2 (fun j hj => .inl hj) ⟨g3, g5⟩ (fun j hj => .inl hj)))
    have h1 := byteVals_one l
    rw [hl] at h1 g1
    simp only [evCopy, T.hu, hi1, hi2, bs_mk, hf, hl, h1, g1]
    rw [hmin]
end
theorem clone_spec {z : St} (wf : WF z) (l : List UInt8) (hl : l.length ≤ 281474976710656) : Cw Tryd.prog 92 [sv l] z fun r s' => K0 z s' ∧ r = sv l := by
  have hp : Hp (fun _ => False) z [] [] z := Hp.start _ wf _ (by simp)
  refine Cw.enterS Tryd.func92 rfl rfl ?_
  refine Sm.seqW ?_
  conv => whnf
  refine Sm.live [0, 2] ?_
  conv => whnf
  refine Sm.seq ?_
  refine Sm.seqW ?_
  conv => whnf
  refine Sm.ofW ?_
  conv => whnf
  have e0 : ((((bs ⟨l.toArray⟩).length : Nat) : Int) == 0) = decide (l = []) := by
    show (((l.length : Nat) : Int) == 0) = _
    rw [Bool.eq_iff_iff, beq_iff_eq, decide_eq_true_iff, ← List.length_eq_zero_iff]; omega
  rw [e0]
  by_cases h0 : l = []
  · refine Br.yes (decide_eq_true h0) ?_
    conv => whnf
    exact ⟨hp.fr, congrArg sv h0.symm⟩
  refine Br.no (decide_eq_false h0) ?_
  conv => whnf
  refine Sm.seqW ?_
  conv => whnf
  refine hp.mksT UB rfl l.length rfl rfl (by omega) ?_
  clear hp
  intro b s hp _
  conv => whnf
  refine Sm.live [0, 3] ?_
  conv => whnf
  refine Sm.seqW ?_
  conv => whnf
  refine hp.copyT UB (by repeat (first | exact Rm.here | apply Rm.there)) l (by simp) ?_
  clear hp
  intro s hp
  conv => whnf
  refine Sm.live [0, 3] ?_
  conv => whnf
  refine Sm.seqW ?_
  conv => whnf
  obtain ⟨m, hm⟩ : ∃ m, l.length = m + 1 := ⟨l.length - 1, by have := List.length_pos_iff.2 h0; omega⟩
  refine Om.of (.pointer (some ⟨b, 0, none⟩)) (by rw [hm]; rfl) ?_
  conv => whnf
  have hB : Bty s b (byteVals l) 1 5 := hp.okF _ (List.mem_cons_self ..)
  obtain ⟨s', u1, u2⟩ := unsafe_str (it := 3) Tryd.underlying90 (i := _) (rfl : Tryd.prog.info? 5 = some _) rfl hp.wf hB.blk hB.blt h0 (by omega)
  refine Om.of _ u1 ?_
  have g2 : K0 z s' := hp.fr.trans u2 fun j hj => .inr (by
    rcases hp.own _ (List.mem_cons_self ..) j hj with g | g
    · exact g.elim
    · exact g)
  conv => whnf
  refine Sm.ofW ?_
  conv => whnf
  exact ⟨g2, rfl⟩
/-- The two variables that hold the errors. -/
structure Gs (s : St) : Prop where
  ex : ∃ i j, Lk.gl 1 = some i ∧ Lk.gl 2 = some j ∧ Ro s i [.chan none] 1 ∧ Ro s j [.chan none] 1
theorem Gs.keep {X : Nat → Prop} {s s' : St} (h : Gs s) (k : Kp X s s') : Gs s' := by
  obtain ⟨i, j, h1, h2, h3, h4⟩ := h.ex
  exact ⟨i, j, h1, h2, k.ro _ _ _ h3, k.ro _ _ _ h4⟩
theorem opl_gl {L : En} {g i : Nat} (h : Lk.gl g = some i) : opl L (.global g) = some (.pointer (some ⟨i, 0, none⟩)) := by
  show (match Lk.gl g with
    | some i => some (Value.pointer (some ⟨i, 0, none⟩))
    | none => none) = _
  rw [h]
theorem oplR_gl {l : List Tmp} {L : En} {g i : Nat} (h : Lk.gl g = some i) : oplR l L (.global g) = some (.pointer (some ⟨i, 0, none⟩)) := opl_gl (L := L) h
theorem syntaxError_spec {z : St} (wf : WF z) (hg : Gs z) (f l : List UInt8) (hl : l.length ≤ 281474976710656) : Cw Tryd.prog 71 [sv f, sv l] z fun r s' => K0 z s' ∧ True := by
  obtain ⟨i, j, h1, h2, h3, h4⟩ := hg.ex
  have hp : Hp (fun _ => False) z [roA i [.chan none] 1, roA j [.chan none] 1] [] z := Hp.start _ wf _ (by simp; exact ⟨h3, h4⟩)
  refine Cw.enterS Tryd.func71 rfl rfl ?_
  refine Sm.seqW ?_
  conv => whnf
  refine Sm.live [0, 1] ?_
  conv => whnf
  refine Sm.seqW ?_
  conv => whnf
  refine ⟨[0, 0, 2, 0, 15, 31, 63], by decide +kernel, by decide +kernel, ?_⟩
  conv => whnf
  refine hp.rst.call (clone_spec hp.rst.wf l hl) ?_
  rintro _ s1 rfl h1 k1
  conv => whnf
  refine hp.dkN h1 k1 ?_
  clear hp h1 k1
  intro s hp
  conv => whnf
  rw [oplR_gl h1]
  conv => whnf
  (refine hp.loadR (by first | exact HasR.here) (v := .chan none) (by rfl) rfl rfl rfl ?_; conv => whnf)
  refine hp.rst.var (cs := [sv f, sv l, .chan none]) (e := 3) rfl rfl ?_
  intro p s9 h9 k9
  conv => whnf
  refine hp.dkN h9 k9 ?_
  clear hp h9 k9
  intro s hp
  conv => whnf
  refine Sm.live [4] ?_
  conv => whnf
  refine Sm.ofW ?_
  conv => whnf
  exact ⟨hp.fr, trivial⟩
theorem rangeError_spec {z : St} (wf : WF z) (hg : Gs z) (f l : List UInt8) (hl : l.length ≤ 281474976710656) : Cw Tryd.prog 72 [sv f, sv l] z fun r s' => K0 z s' ∧ True := by
  obtain ⟨i, j, h1, h2, h3, h4⟩ := hg.ex
  have hp : Hp (fun _ => False) z [roA i [.chan none] 1, roA j [.chan none] 1] [] z := Hp.start _ wf _ (by simp; exact ⟨h3, h4⟩)
  refine Cw.enterS Tryd.func72 rfl rfl ?_
  refine Sm.seqW ?_
  conv => whnf
  refine Sm.live [0, 1] ?_
  conv => whnf
  refine Sm.seqW ?_
  conv => whnf
  refine ⟨[0, 0, 2, 0, 15, 31, 63], by decide +kernel, by decide +kernel, ?_⟩
  conv => whnf
  refine hp.rst.call (clone_spec hp.rst.wf l hl) ?_
  rintro _ s1 rfl h1 k1
  conv => whnf
  refine hp.dkN h1 k1 ?_
  clear hp h1 k1
  intro s hp
  conv => whnf
  rw [oplR_gl h2]
  conv => whnf
  (refine hp.loadR (by exact HasR.there HasR.here) (v := .chan none) (by rfl) rfl rfl rfl ?_; conv => whnf)
  refine hp.rst.var (cs := [sv f, sv l, .chan none]) (e := 3) rfl rfl ?_
  intro p s9 h9 k9
  conv => whnf
  refine hp.dkN h9 k9 ?_
  clear hp h9 k9
  intro s hp
  conv => whnf
  refine Sm.live [4] ?_
  conv => whnf
  refine Sm.ofW ?_
  conv => whnf
  exact ⟨hp.fr, trivial⟩
def erV (k : Int) : Value := .iface 103 (.int .i64 k)
theorem toError_spec {z : St} (wf : WF z) (hg : Gs z) (f l : List UInt8) (hl : l.length ≤ 281474976710656) (k : Int) (hk : k = 1 ∨ k = 2) :
    Cw Tryd.prog 56 [sv f, sv l, .int .i64 0, .int .i64 0, erV k] z fun r s' => K0 z s' ∧ True := by
  have hp : Hp (fun _ => False) z [] [] z := Hp.start _ wf _ (by simp)
  refine Cw.enterS Tryd.func56 rfl rfl ?_
  refine Sm.seqW ?_
  conv => whnf
  refine Sm.live [0, 1, 2, 3, 4, 10] ?_
  conv => whnf
  refine Sm.seq ?_
  refine Sm.seqW ?_
  conv => whnf
  refine Sm.block ?_
  refine Sm.seqW ?_
  conv => whnf
  rcases hk with rfl | rfl
  · refine Om.of (.bool false) (by kernel_rfl) ?_
    conv => whnf
    refine Sm.ofW ?_
    conv => whnf
    repeat (first | (refine Br.yes (by first | with_reducible rfl | with_reducible exact beq_self_eq_true _ | rfl) ?_; conv => whnf) | (refine Br.no (by first | with_reducible rfl | with_reducible exact bne_self_eq_false _ | rfl) ?_; conv => whnf))
    refine Om.of (.bool true) (by kernel_rfl) ?_
    conv => whnf
    repeat (first | (refine Br.yes (by first | with_reducible rfl | with_reducible exact beq_self_eq_true _ | rfl) ?_; conv => whnf) | (refine Br.no (by first | with_reducible rfl | with_reducible exact bne_self_eq_false _ | rfl) ?_; conv => whnf))
    refine hp.call (rangeError_spec hp.wf (hg.keep hp.fr) f l hl) ?_
    clear hp
    intro v s _ hp _
    conv => whnf
    exact ⟨hp.fr, trivial⟩
  · refine Om.of (.bool true) (by kernel_rfl) ?_
    conv => whnf
    refine Sm.ofW ?_
    conv => whnf
    repeat (first | (refine Br.yes (by first | with_reducible rfl | with_reducible exact beq_self_eq_true _ | rfl) ?_; conv => whnf) | (refine Br.no (by first | with_reducible rfl | with_reducible exact bne_self_eq_false _ | rfl) ?_; conv => whnf))
    refine hp.call (syntaxError_spec hp.wf (hg.keep hp.fr) f l hl) ?_
    clear hp
    intro v s _ hp _
    conv => whnf
    exact ⟨hp.fr, trivial⟩
end Go.Ev
end

/- From the two listed errors to the first state. No condition. -/
noncomputable section
namespace Go.Ev
open Go.Proofs
variable [Lk]
set_option linter.unusedSectionVars false
set_option linter.unusedVariables false

theorem var_heap {P : Program} {W : World} {n : String} {g : Nat} {v : Value} (hg : P.globalNamed n = some g) (h : W.var? P n = some #[v]) : ∃ t fr, W.heap[g]? = some (.cells #[v] t fr) := by
  unfold World.var? at h
  rw [hg] at h
  simp only [Option.bind_some] at h
  split at h
  · rename_i cs t fr hh
    injection h with h
    subst h
    exact ⟨t, fr, hh⟩
  · cases h
/-- Two package variables that hold a value of which nothing is known. -/
def gsB : List (List Value × Nat) := [([.chan none], 1), ([.chan none], 1)]
abbrev lk2 (a b : Nat) : Lk := ⟨fun g => if g = a then some 0 else if g = b then some 1 else none⟩
def beta2 (a b : Nat) : B := fun i => if i = 0 then some ⟨a, 0, 1, 1⟩ else if i = 1 then some ⟨b, 0, 1, 1⟩ else none
theorem hgl2 (a b : Nat) : ∀ g i, (lk2 a b).gl g = some i → ∃ e l, beta2 a b i = some ⟨g, 0, e, l⟩ := by
  intro g i h
  unfold lk2 at h
  simp only at h
  split at h
  · rename_i e
    injection h with h; subst h e
    exact ⟨1, 1, rfl⟩
  · split at h
    · rename_i _ e
      injection h with h; subst h e
      exact ⟨1, 1, rfl⟩
    · cases h
theorem beta2_ok {W : World} {a b : Nat} {ta tb tc td : TypeId} {fa fb : Nat × Nat} {va vb : Value} (ha : W.heap[a]? = some (.cells #[.iface ta va] tc fa)) (hb : W.heap[b]? = some (.cells #[.iface tb vb] td fb)) :
    ∀ i bi, beta2 a b i = some bi → ∃ cs e C t fr, gsB[i]? = some (cs, e) ∧ bi.esz = e ∧ W.heap[bi.blk]? = some (.cells C t fr) ∧ ∀ (j : Nat) (v : Value), cs[j]? = some v → ∃ v', C[j + bi.sh]? = some v' ∧ VR (beta2 a b) v v' := by
  have one : ∀ (x : Value) (j : Nat) (v : Value), ([Value.chan none] : List Value)[j]? = some v → ∀ {t : TypeId}, ∃ v', (#[Value.iface t x] : Array Value)[j + 0]? = some v' ∧ VR (beta2 a b) v v' := by
    intro x j v h t
    cases j with
    | zero => injection h with h; subst h; exact ⟨_, rfl, .junkI _ _⟩
    | succ j => cases h
  intro i bi h
  unfold beta2 at h
  split at h
  · rename_i e
    injection h with h; subst h e
    exact ⟨_, _, _, _, _, rfl, rfl, ha, fun j v hv => one _ j v hv⟩
  · split at h
    · rename_i _ e
      injection h with h; subst h e
      exact ⟨_, _, _, _, _, rfl, rfl, hb, fun j v hv => one _ j v hv⟩
    · cases h
end Go.Ev
end

/- Numbers of texts: ParseUint, ParseInt. No condition. -/
noncomputable section
namespace Go.Ev
open Go.Proofs
variable [Lk]
set_option linter.unusedSectionVars false
set_option linter.unusedVariables false
set_option maxRecDepth 100000

theorem ilower_spec (s : St) (c : UInt8) : Cw Tryd.prog 111 [.int .u8 ((c.toNat : Nat) : Int)] s fun r s' => s' = s ∧ ∃ d : Int, r = .int .u8 d := by
  refine Cw.enterS Tryd.func111 rfl rfl ?_
  refine Sm.seqW ?_
  conv => whnf
  refine Sm.seqW ?_
  conv => whnf
  refine Sm.ofW ?_
  conv => whnf
  exact ⟨rfl, _, rfl⟩
theorem u64_rng (x : Int) : 0 ≤ IntKind.u64.wrap x ∧ IntKind.u64.wrap x < 18446744073709551616 := by rw [wrap_u64i]; omega
/-- A number and perhaps an error. -/
structure NE (lo hi : Int) (k : IntKind) (r : Value) : Prop where
  ex : ∃ (n : Int) (e : Value), r = .tuple #[.int k n, e] ∧ lo ≤ n ∧ n < hi ∧ (e = .nilIface ∨ e = erV 1 ∨ e = erV 2)
theorem parseUint_spec {z : St} (wf : WF z) (l : List UInt8) (hl : l.length ≤ 281474976710656) :
    Cw Tryd.prog 91 [sv l, .int .i64 10, .int .i64 0] z fun r s' => K0 z s' ∧ NE 0 18446744073709551616 .u64 r := by
  have hp : Hp (fun _ => False) z [] [] z := Hp.start _ wf _ (by simp)
  refine Cw.enterS Tryd.func91 rfl rfl ?_
  refine Sm.seqW ?_
  conv => whnf
  refine Sm.live [0, 1, 2, 6, 7] ?_
  conv => whnf
  refine Sm.seq ?_
  refine Sm.seqW ?_
  conv => whnf
  refine Om.of _ (str_eq ⟨l.toArray⟩ _) ?_
  conv => whnf
  repeat (first | (refine Br.yes (by first | with_reducible rfl | with_reducible exact beq_self_eq_true _ | rfl) ?_; conv => whnf) | (refine Br.no (by first | with_reducible rfl | with_reducible exact bne_self_eq_false _ | rfl) ?_; conv => whnf))
  refine Sm.ofW ?_
  conv => whnf
  have e0 : (bs ⟨l.toArray⟩ == bs { data := #[] }) = decide (l = []) := by
    show (l == ([] : List UInt8)) = _
    rw [Bool.eq_iff_iff, beq_iff_eq, decide_eq_true_iff]
  rw [e0]
  by_cases h0 : l = []
  · refine Br.yes (decide_eq_true h0) ?_
    conv => whnf
    exact ⟨hp.fr, ⟨_, _, rfl, by decide, by decide, .inr (.inr rfl)⟩⟩
  refine Br.no (decide_eq_false h0) ?_
  conv => whnf
  refine Sm.seqW ?_
  conv => whnf
  refine Sm.live [0, 1, 2, 8] ?_
  conv => whnf
  refine Sm.seqW ?_
  conv => whnf
  refine Sm.live [0, 1, 2, 8, 9] ?_
  conv => whnf
  refine Sm.seq ?_
  refine Sm.block ?_
  refine Sm.seqW ?_
  conv => whnf
  repeat (first | (refine Br.yes (by first | with_reducible rfl | with_reducible exact beq_self_eq_true _ | rfl) ?_; conv => whnf) | (refine Br.no (by first | with_reducible rfl | with_reducible exact bne_self_eq_false _ | rfl) ?_; conv => whnf))
  refine Sm.ofW ?_
  conv => whnf
  repeat (first | (refine Br.yes (by first | with_reducible rfl | with_reducible exact beq_self_eq_true _ | rfl) ?_; conv => whnf) | (refine Br.no (by first | with_reducible rfl | with_reducible exact bne_self_eq_false _ | rfl) ?_; conv => whnf))
  refine Sm.live [0, 1, 2, 8, 9] ?_
  conv => whnf
  refine Sm.seq ?_
  refine Sm.seqW ?_
  conv => whnf
  repeat (first | (refine Br.yes (by first | with_reducible rfl | with_reducible exact beq_self_eq_true _ | rfl) ?_; conv => whnf) | (refine Br.no (by first | with_reducible rfl | with_reducible exact bne_self_eq_false _ | rfl) ?_; conv => whnf))
  refine Sm.ofW ?_
  conv => whnf
  repeat (first | (refine Br.yes (by first | with_reducible rfl | with_reducible exact beq_self_eq_true _ | rfl) ?_; conv => whnf) | (refine Br.no (by first | with_reducible rfl | with_reducible exact bne_self_eq_false _ | rfl) ?_; conv => whnf))
  refine Sm.live [0, 1, 2, 8, 9] ?_
  conv => whnf
  refine Sm.seqW ?_
  conv => whnf
  refine Sm.live [0, 1, 2, 8, 9, 10] ?_
  conv => whnf
  refine Sm.seq ?_
  refine Sm.seqW ?_
  conv => whnf
  refine Sm.block ?_
  refine Sm.seqW ?_
  conv => whnf
  repeat (first | (refine Br.yes (by first | with_reducible rfl | with_reducible exact beq_self_eq_true _ | rfl) ?_; conv => whnf) | (refine Br.no (by first | with_reducible rfl | with_reducible exact bne_self_eq_false _ | rfl) ?_; conv => whnf))
  refine Sm.ofW ?_
  conv => whnf
  repeat (first | (refine Br.yes (by first | with_reducible rfl | with_reducible exact beq_self_eq_true _ | rfl) ?_; conv => whnf) | (refine Br.no (by first | with_reducible rfl | with_reducible exact bne_self_eq_false _ | rfl) ?_; conv => whnf))
  refine Sm.live [0, 1, 2, 8, 9, 10] ?_
  conv => whnf
  refine Sm.seqW ?_
  conv => whnf
  refine Om.of (.int .u64 0) (by kernel_rfl) ?_
  conv => whnf
  refine Sm.live [0, 1, 2, 8, 9, 10, 11] ?_
  conv => whnf
  refine Sm.seqW ?_
  conv => whnf
  refine Sm.live [0, 1, 2, 8, 9, 10, 11, 12] ?_
  conv => whnf
  refine Sm.seqW ?_
  conv => whnf
  refine Sm.live [0, 1, 2, 8, 9, 10, 11, 12, 13] ?_
  conv => whnf
  refine Sm.seq ?_
  refine Sm.seqW ?_
  conv => whnf
  refine hp.bytesOf Tryd.underlying9 Tryd.underlying28 Tryd.underlying5 ⟨l.toArray⟩ ?_
  clear hp
  intro b s hp _
  conv => whnf
  refine Sm.live [1, 8, 9, 10, 11, 12, 13, 99, 100, 101] ?_
  conv => whnf
  refine Sm.block ?_
  refine Sm.loop ?_
  refine Lp.ofS (α := Nat × Int) (fun x => [(1, .int .i64 10), (8, .bool false), (9, sv l), (10, .int .u64 1844674407370955162), (11, .int .u64 18446744073709551615), (12, .bool false), (13, .int .u64 x.2), (99, .slice (some ⟨b, 0, none⟩) l.length l.length), (100, .int .i64 ((l.length : Nat) : Int)), (101, .int .i64 (x.1 : Int))])
    (fun x s' => x.1 ≤ l.length ∧ (0 ≤ x.2 ∧ x.2 < 18446744073709551616) ∧ Hp (fun _ => False) z [] [blkA b b (byteVals l) 1] s') (fun x => l.length - x.1) ?_ (0, 0) (subK_ok (by refine ⟨rfl, rfl, rfl, rfl, rfl, rfl, rfl, rfl, rfl, rfl, trivial⟩)) ⟨Nat.zero_le _, ⟨Int.le_refl _, by decide⟩, hp⟩
  clear hp
  rintro ⟨i, n⟩ s ⟨hi, ⟨hn0, hn1⟩, hp⟩
  have hi : i ≤ l.length := hi
  have hn0 : 0 ≤ n := hn0
  have hn1 : n < 18446744073709551616 := hn1
  refine Sm.seqW ?_
  conv => whnf
  refine Sm.live [1, 8, 9, 10, 11, 12, 13, 99, 100, 101, 102] ?_
  conv => whnf
  refine Sm.seq ?_
  refine Sm.ofW ?_
  conv => whnf
  refine Br.mk (fun hq => ?_) (fun hq => ?_)
  · have hq : i < l.length := by have : (i : Int) < (l.length : Int) := of_decide_eq_true hq; omega
    obtain ⟨p, y, e1, e2, e3, _, rfl⟩ := index_sl UB Tryd.underlying5 rfl (hp.blkSl (n := l.length) (by repeat (first | exact Has.here | apply Has.there | (apply Has.swap; repeat (first | exact HasR.here | apply HasR.there)))) (by rw [byteVals_length]; omega)) .i64 hq
    have e4 : y = .int .u8 ((l[i].toNat : Nat) : Int) := by
      unfold byteVals at e2
      rw [List.getElem?_map, List.getElem?_eq_getElem hq] at e2
      injection e2 with e2; exact e2.symm
    subst e4
    generalize hc : l[i] = c at *
    conv => whnf
    refine Sm.seq ?_
    refine Sm.block ?_
    refine Sm.seqW ?_
    conv => whnf
    refine Om.of _ (e1) ?_
    conv => whnf
    refine Om.of _ (e3) ?_
    conv => whnf
    refine Sm.live [1, 8, 9, 10, 11, 12, 13, 99, 100, 101, 15] ?_
    conv => whnf
    refine Sm.seqW ?_
    conv => whnf
    refine Sm.live [1, 8, 9, 10, 11, 12, 13, 99, 100, 101, 15, 16] ?_
    conv => whnf
    refine Sm.seq ?_
    refine Sm.block ?_
    refine Sm.seqC (fun e L' s' => e = .normal ∧ s' = s ∧ Sub [(1, .int .i64 10), (8, .bool false), (9, sv l), (10, .int .u64 1844674407370955162), (11, .int .u64 18446744073709551615), (12, .bool false), (13, .int .u64 n), (99, .slice (some ⟨b, 0, none⟩) l.length l.length), (100, .int .i64 ((l.length : Nat) : Int)), (101, .int .i64 (i : Int)), (15, .int .u8 ((c.toNat : Nat) : Int)), (106, .bool false)] L') ?_ ?_
    · conv => whnf
      repeat' (first | (refine Br.yes (by first | with_reducible rfl | with_reducible assumption) ?_; conv => whnf) | (refine Br.no (by first | with_reducible rfl | with_reducible assumption) ?_; conv => whnf) | (refine Br.mk (fun hq => ?_) (fun hq => ?_) <;> conv => whnf))
      all_goals exact ⟨rfl, rfl, subK_ok ⟨rfl, rfl, rfl, rfl, rfl, rfl, rfl, rfl, rfl, rfl, rfl, rfl, trivial⟩⟩
    rintro e L' s' ⟨rfl, rfl, hs⟩
    refine Sm.weak _ hs ?_
    clear hs
    refine Sm.ofW ?_
    conv => whnf
    repeat' (first
      | (refine Br.yes (by first | with_reducible rfl | with_reducible assumption) ?_; conv => whnf)
      | (refine Br.no (by first | with_reducible rfl | with_reducible assumption) ?_; conv => whnf)
      | (refine (ilower_spec _ c).mono ?_; rintro _ s1 ⟨h1, d, rfl⟩; obtain rfl := h1.symm; clear h1; conv => whnf)
      | (refine Br.mk (fun hq => ?_) (fun hq => ?_) <;> conv => whnf))
    all_goals first
      | exact ⟨hp.fr, ⟨_, _, rfl, by decide, by decide, .inr (.inr rfl)⟩⟩
      | skip
    all_goals
      refine Sm.live [1, 8, 9, 10, 11, 12, 13, 99, 100, 101, 16] ?_
      conv => whnf
      refine Sm.ofW ?_
      conv => whnf
      repeat' (first | (refine Br.yes (by first | with_reducible rfl | with_reducible assumption) ?_; conv => whnf) | (refine Br.no (by first | with_reducible rfl | with_reducible assumption) ?_; conv => whnf) | (refine Br.mk (fun hq => ?_) (fun hq => ?_) <;> conv => whnf))
    all_goals first
      | exact ⟨hp.fr, ⟨_, _, rfl, by decide, by decide, .inr (.inr rfl)⟩⟩
      | exact ⟨hp.fr, ⟨_, _, rfl, by decide, by decide, .inr (.inl rfl)⟩⟩
      | skip
    all_goals
      refine Sm.ofW ?_
      conv => whnf
      exact ⟨(i + 1, _), by (show l.length - (i + 1) < l.length - i); omega, subK_ok (by refine ⟨rfl, rfl, rfl, rfl, rfl, rfl, rfl, rfl, rfl, congrArg (fun x => some (Value.int .i64 x)) (show IntKind.i64.wrap ((i : Int) + 1) = ((i + 1 : Nat) : Int) by rw [wi64 (by omega) (by omega)]; omega), trivial⟩), by (show i + 1 ≤ l.length); omega, u64_rng _, hp⟩
  · conv => whnf
    refine Sm.ofW ?_
    conv => whnf
    repeat (first | (refine Br.yes (by first | with_reducible rfl | with_reducible exact beq_self_eq_true _ | rfl) ?_; conv => whnf) | (refine Br.no (by first | with_reducible rfl | with_reducible exact bne_self_eq_false _ | rfl) ?_; conv => whnf))
    exact ⟨hp.fr, ⟨_, _, rfl, hn0, hn1, .inl rfl⟩⟩
end Go.Ev
end

/- Numbers of texts: ParseInt. No condition. -/
noncomputable section
namespace Go.Ev
open Go.Proofs
variable [Lk]
set_option linter.unusedSectionVars false
set_option linter.unusedVariables false
set_option maxRecDepth 100000

theorem i64_rng (x : Int) : -9223372036854775808 ≤ IntKind.i64.wrap x ∧ IntKind.i64.wrap x < 9223372036854775808 := by rw [wrap_i64i]; split <;> omega
theorem parseInt_spec {z : St} (wf : WF z) (l : List UInt8) (hl : l.length ≤ 281474976710656) :
    Cw Tryd.prog 70 [sv l, .int .i64 10, .int .i64 0] z fun r s' => K0 z s' ∧ NE (-9223372036854775808) 9223372036854775808 .i64 r := by
  have hp : Hp (fun _ => False) z [] [] z := Hp.start _ wf _ (by simp)
  refine Cw.enterS Tryd.func70 rfl rfl ?_
  refine Sm.seqW ?_
  conv => whnf
  refine Sm.live [0, 1, 2, 6, 7] ?_
  conv => whnf
  refine Sm.seq ?_
  refine Sm.seqW ?_
  conv => whnf
  refine Om.of _ (str_eq ⟨l.toArray⟩ _) ?_
  conv => whnf
  repeat (first | (refine Br.yes (by first | with_reducible rfl | with_reducible exact beq_self_eq_true _ | rfl) ?_; conv => whnf) | (refine Br.no (by first | with_reducible rfl | with_reducible exact bne_self_eq_false _ | rfl) ?_; conv => whnf))
  refine Sm.ofW ?_
  conv => whnf
  have e0 : (bs ⟨l.toArray⟩ == bs { data := #[] }) = decide (l = []) := by
    show (l == ([] : List UInt8)) = _
    rw [Bool.eq_iff_iff, beq_iff_eq, decide_eq_true_iff]
  rw [e0]
  by_cases h0 : l = []
  · refine Br.yes (decide_eq_true h0) ?_
    conv => whnf
    exact ⟨hp.fr, ⟨_, _, rfl, by decide, by decide, .inr (.inr rfl)⟩⟩
  refine Br.no (decide_eq_false h0) ?_
  conv => whnf
  have hpos : 0 < l.length := List.length_pos_iff.2 h0
  refine Sm.seqW ?_
  conv => whnf
  refine Sm.live [0, 1, 2, 6, 7, 8] ?_
  conv => whnf
  refine Sm.seq ?_
  refine Sm.seqW ?_
  conv => whnf
  refine Om.of _ (str_index Tryd.underlying9 (l := l) (i := 0) hpos .i64) ?_
  conv => whnf
  refine Sm.live [0, 1, 2, 6, 7, 8, 16] ?_
  conv => whnf
  refine Sm.mono (Q := fun e L' s' => e = .normal ∧ s' = z ∧ ∃ (l' : List UInt8) (B : Bool), l'.length ≤ l.length ∧ Sub [(0, sv l'), (1, .int .i64 10), (2, .int .i64 0), (8, .bool B)] L') ?_ ?_
  · refine Sm.block ?_
    refine Sm.ofW ?_
    conv => whnf
    repeat' (first | (refine Br.yes (by first | with_reducible rfl | with_reducible assumption) ?_; conv => whnf) | (refine Br.no (by first | with_reducible rfl | with_reducible assumption) ?_; conv => whnf) | (refine Om.of _ (str_drop Tryd.underlying9 (l := l) .i64 (j := 1) hpos) ?_; conv => whnf) | (refine Br.mk (fun hq => ?_) (fun hq => ?_) <;> conv => whnf))
    all_goals exact ⟨rfl, rfl, _, _, by first | exact Nat.le_refl _ | (rw [List.length_drop]; omega), subK_ok ⟨rfl, rfl, rfl, rfl, trivial⟩⟩
  rintro e L' s' ⟨rfl, rfl, l', B, hl', hs⟩
  refine Sm.weak _ hs ?_
  clear hs
  refine Sm.seqW ?_
  conv => whnf
  refine Sm.live [0, 1, 2, 8, 9] ?_
  conv => whnf
  refine Sm.seqW ?_
  conv => whnf
  refine hp.call (parseUint_spec hp.wf l' (by omega)) ?_
  clear hp
  rintro _ s ⟨n, e, rfl, h1, h2, he⟩ hp _
  conv => whnf
  refine Sm.live [2, 7, 8, 9] ?_
  conv => whnf
  rcases he with rfl | rfl | rfl
  · refine Sm.seq ?_
    refine Sm.seqW ?_
    conv => whnf
    refine Om.of (.bool false) (by kernel_rfl) ?_
    conv => whnf
    repeat (first | (refine Br.yes (by first | with_reducible rfl | with_reducible exact beq_self_eq_true _ | rfl) ?_; conv => whnf) | (refine Br.no (by first | with_reducible rfl | with_reducible exact bne_self_eq_false _ | rfl) ?_; conv => whnf))
    refine Sm.ofW ?_
    conv => whnf
    repeat (first | (refine Br.yes (by first | with_reducible rfl | with_reducible exact beq_self_eq_true _ | rfl) ?_; conv => whnf) | (refine Br.no (by first | with_reducible rfl | with_reducible exact bne_self_eq_false _ | rfl) ?_; conv => whnf))
    refine Sm.live [2, 8, 9] ?_
    conv => whnf
    refine Sm.seq ?_
    refine Sm.seqW ?_
    conv => whnf
    repeat (first | (refine Br.yes (by first | with_reducible rfl | with_reducible exact beq_self_eq_true _ | rfl) ?_; conv => whnf) | (refine Br.no (by first | with_reducible rfl | with_reducible exact bne_self_eq_false _ | rfl) ?_; conv => whnf))
    refine Sm.ofW ?_
    conv => whnf
    repeat (first | (refine Br.yes (by first | with_reducible rfl | with_reducible exact beq_self_eq_true _ | rfl) ?_; conv => whnf) | (refine Br.no (by first | with_reducible rfl | with_reducible exact bne_self_eq_false _ | rfl) ?_; conv => whnf))
    refine Sm.live [2, 8, 9] ?_
    conv => whnf
    refine Sm.seqW ?_
    conv => whnf
    refine Om.of (.int .u64 9223372036854775808) (by kernel_rfl) ?_
    conv => whnf
    refine Sm.live [8, 9, 10] ?_
    conv => whnf
    cases B
    all_goals
      refine Sm.ofW ?_
      conv => whnf
      repeat' (first | (refine Br.yes (by first | with_reducible rfl | with_reducible assumption) ?_; conv => whnf) | (refine Br.no (by first | with_reducible rfl | with_reducible assumption) ?_; conv => whnf) | (refine Br.mk (fun hq => ?_) (fun hq => ?_) <;> conv => whnf))
    all_goals exact ⟨hp.fr, ⟨_, _, rfl, (i64_rng _).1, (i64_rng _).2, by first | exact .inl rfl | exact .inr (.inl rfl)⟩⟩
  · refine Sm.seq ?_
    refine Sm.seqW ?_
    conv => whnf
    refine Om.of (.bool true) (by kernel_rfl) ?_
    conv => whnf
    repeat (first | (refine Br.yes (by first | with_reducible rfl | with_reducible exact beq_self_eq_true _ | rfl) ?_; conv => whnf) | (refine Br.no (by first | with_reducible rfl | with_reducible exact bne_self_eq_false _ | rfl) ?_; conv => whnf))
    refine Om.of (.bool false) (by kernel_rfl) ?_
    conv => whnf
    repeat (first | (refine Br.yes (by first | with_reducible rfl | with_reducible exact beq_self_eq_true _ | rfl) ?_; conv => whnf) | (refine Br.no (by first | with_reducible rfl | with_reducible exact bne_self_eq_false _ | rfl) ?_; conv => whnf))
    refine Sm.ofW ?_
    conv => whnf
    repeat (first | (refine Br.yes (by first | with_reducible rfl | with_reducible exact beq_self_eq_true _ | rfl) ?_; conv => whnf) | (refine Br.no (by first | with_reducible rfl | with_reducible exact bne_self_eq_false _ | rfl) ?_; conv => whnf))
    refine Sm.live [2, 8, 9] ?_
    conv => whnf
    refine Sm.seq ?_
    refine Sm.seqW ?_
    conv => whnf
    repeat (first | (refine Br.yes (by first | with_reducible rfl | with_reducible exact beq_self_eq_true _ | rfl) ?_; conv => whnf) | (refine Br.no (by first | with_reducible rfl | with_reducible exact bne_self_eq_false _ | rfl) ?_; conv => whnf))
    refine Sm.ofW ?_
    conv => whnf
    repeat (first | (refine Br.yes (by first | with_reducible rfl | with_reducible exact beq_self_eq_true _ | rfl) ?_; conv => whnf) | (refine Br.no (by first | with_reducible rfl | with_reducible exact bne_self_eq_false _ | rfl) ?_; conv => whnf))
    refine Sm.live [2, 8, 9] ?_
    conv => whnf
    refine Sm.seqW ?_
    conv => whnf
    refine Om.of (.int .u64 9223372036854775808) (by kernel_rfl) ?_
    conv => whnf
    refine Sm.live [8, 9, 10] ?_
    conv => whnf
    cases B
    all_goals
      refine Sm.ofW ?_
      conv => whnf
      repeat' (first | (refine Br.yes (by first | with_reducible rfl | with_reducible assumption) ?_; conv => whnf) | (refine Br.no (by first | with_reducible rfl | with_reducible assumption) ?_; conv => whnf) | (refine Br.mk (fun hq => ?_) (fun hq => ?_) <;> conv => whnf))
    all_goals exact ⟨hp.fr, ⟨_, _, rfl, (i64_rng _).1, (i64_rng _).2, by first | exact .inl rfl | exact .inr (.inl rfl)⟩⟩
  · refine Sm.seq ?_
    refine Sm.seqW ?_
    conv => whnf
    refine Om.of (.bool true) (by kernel_rfl) ?_
    conv => whnf
    repeat (first | (refine Br.yes (by first | with_reducible rfl | with_reducible exact beq_self_eq_true _ | rfl) ?_; conv => whnf) | (refine Br.no (by first | with_reducible rfl | with_reducible exact bne_self_eq_false _ | rfl) ?_; conv => whnf))
    refine Om.of (.bool true) (by kernel_rfl) ?_
    conv => whnf
    repeat (first | (refine Br.yes (by first | with_reducible rfl | with_reducible exact beq_self_eq_true _ | rfl) ?_; conv => whnf) | (refine Br.no (by first | with_reducible rfl | with_reducible exact bne_self_eq_false _ | rfl) ?_; conv => whnf))
    refine Sm.ofW ?_
    conv => whnf
    repeat (first | (refine Br.yes (by first | with_reducible rfl | with_reducible exact beq_self_eq_true _ | rfl) ?_; conv => whnf) | (refine Br.no (by first | with_reducible rfl | with_reducible exact bne_self_eq_false _ | rfl) ?_; conv => whnf))
    exact ⟨hp.fr, ⟨_, _, rfl, by decide, by decide, .inr (.inr rfl)⟩⟩
end Go.Ev
end
