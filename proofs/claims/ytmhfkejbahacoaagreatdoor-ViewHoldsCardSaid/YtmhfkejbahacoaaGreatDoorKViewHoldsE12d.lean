/- A proved evaluator, part 12d: bytes that become a text without a copy; bytes that nobody has set. No condition. -/
import Derived.Test.YtmhfkejbahacoaaGreatDoorKViewHoldsE12c
noncomputable section
namespace Go.Ev
open Go.RowKit
set_option linter.unusedVariables false
variable [Lk]
set_option linter.unusedSectionVars false

/-- unsafe.SliceData of a slice with room, or of nil. -/
def evUSD (x : Value) : Option Value :=
  match x with
  | .slice none _ _ => some (.pointer none)
  | .slice (some a) _ (_ + 1) => some (.pointer (some ⟨a.block, a.off, none⟩))
  | _ => none
theorem usd_sim {P : Program} {β : B} {x x' r : Value} {ats : Array TypeId} {ty : TypeId} (h : evUSD x = some r) (hx : VR β x x') : ∃ r', VR β r r' ∧ Gives P (Builtin.unsafeSliceData_ ats ty #[x']) r' := by
  unfold evUSD at h
  split at h <;> first | contradiction | skip
  · injection h with h; subst h
    cases hx
    exact ⟨_, .nilp, fun w => Lib.run_unsafeSliceData_nil w ats ty 0 0⟩
  · rename_i a n c
    injection h with h; subst h
    cases hx with | slice hn hs =>
    rename_i a' c'
    obtain ⟨bi, s1, s2, s3, s4, s5, s6, s7⟩ := hs
    refine ⟨_, .ptr (a' := a') ⟨bi, s1, rfl, ?_⟩, fun w => Lib.run_unsafeSliceData_row w ats ty a' n c' (by omega)⟩
    have : a'.off = a.off + bi.sh := by rcases s5 with g | g <;> omega
    cases a'; simp_all

/-- Are the numbers of the cells numbers of one byte? -/
def bytesOk : List Value → Bool
  | [] => true
  | .int .u8 (.ofNat n) :: r => match Nat.blt n 256 with
    | true => bytesOk r
    | false => false
  | _ => false
/-- unsafe.String over all of a block's first bytes. -/
def evUStr (P : Program) (ts : List TypeId) (x n : Value) (s : St) : Option (Value × St) :=
  match ts with
  | [pt, _] => match P.underlying pt, x, n with
    | some (.pointer _), .pointer none, .int .i64 (.ofNat 0) => some (.string ⟨#[]⟩, s)
    | some (.pointer _), .pointer (some _), .int .i64 (.ofNat 0) => some (.string ⟨#[]⟩, s)
    | some (.pointer e), .pointer (some a), .int .i64 (.ofNat (m + 1)) => match P.info? e, s.heap.get a.block, s.tys.get a.block, s.rd a.block, s.sealB a.block with
      | some i, some (.cells _ _ 0 _ true), some (t + 1), some cs, some s' => match Nat.beq i.size 1, Nat.beq t e, Nat.beq a.off 0, Nat.ble (m + 1) 9223372036854775807, sl cs 0 (m + 1) with
        | true, true, true, true, some l => match bytesOk l, valBytes l with
          | true, some b => some (.string ⟨b.toArray⟩, s')
          | _, _ => none
        | _, _, _, _, _ => none
      | _, _, _, _, _ => none
    | _, _, _ => none
  | _ => none
theorem ustr_U {P : Program} {ts : List TypeId} {x n r : Value} {s s' : St} (wf : WF s) (h : evUStr P ts x n s = some (r, s')) : U s s' := by
  unfold evUStr at h
  repeat' (split at h <;> first | contradiction | skip)
  all_goals (injection h with h; injection h with h1 h2; subst h2; first | exact U.refl wf | exact seal_U wf (by assumption))
theorem freeze_at {w : World} {g : Nat} {C : Array Value} {e : TypeId} {fr : Nat × Nat} (hg : w.heap[g]? = some (.cells C e fr)) (a n : Nat) : ∃ fr', (w.freeze ⟨g, a, none⟩ n).heap[g]? = some (.cells C e fr') := by
  unfold World.freeze
  split
  · exact ⟨fr, hg⟩
  · obtain ⟨lo, hi⟩ := fr
    exact ⟨_, by simp only [Array.getElem?_modify, if_true, hg, Option.map_some]; rfl⟩
theorem freeze_rest (w : World) (g a n : Nat) : (w.freeze ⟨g, a, none⟩ n).os = w.os ∧ (w.freeze ⟨g, a, none⟩ n).tape = w.tape ∧ (w.freeze ⟨g, a, none⟩ n).output = w.output ∧ (w.freeze ⟨g, a, none⟩ n).heap.size = w.heap.size ∧
    ∀ j, j ≠ g → (w.freeze ⟨g, a, none⟩ n).heap[j]? = w.heap[j]? := by
  unfold World.freeze
  split
  · exact ⟨rfl, rfl, rfl, rfl, fun _ _ => rfl⟩
  · exact ⟨rfl, rfl, rfl, by simp, fun j hj => by simp only [Array.getElem?_modify]; rw [if_neg (fun h => hj h.symm)]⟩
theorem valBytes_get {β : B} : ∀ {l l' : List Value} {b : List UInt8}, valBytes l = some b → LR β l l' → b.length = l.length ∧ ∀ (j : Nat) (x : UInt8), b[j]? = some x → (∃ n : Int, l'[j]? = some (.int .u8 n) ∧ x = UInt8.ofNat n.toNat)
  | [], _, _, h, hl => by cases hl; simp only [valBytes] at h; injection h with h; subst h; exact ⟨rfl, fun j x hx => by simp at hx⟩
  | v :: r, _, _, h, hl => by
    obtain ⟨ns, h1, h2⟩ := valBytes_LR h hl
    have hlen := hl.length
    refine ⟨by rw [h2, List.length_map]; rw [h1, List.length_map] at hlen; exact hlen.symm, fun j x hx => ?_⟩
    rw [h2, List.getElem?_map, Option.map_eq_some_iff] at hx
    obtain ⟨n, hn, rfl⟩ := hx
    exact ⟨n, by rw [h1, List.getElem?_map, hn]; rfl, rfl⟩
theorem bytesOk_get {β : B} : ∀ {l l' : List Value} {b : List UInt8}, bytesOk l = true → valBytes l = some b → LR β l l' → ∀ (j : Nat) (x : UInt8), b[j]? = some x → l'[j]? = some (.int .u8 (x.toNat : Int))
  | [], _, _, _, h, hl => by cases hl; simp only [valBytes] at h; injection h with h; subst h; intro j x hx; simp at hx
  | v :: r, _, _, ho, h, hl => by
    cases hl with | cons hv ht =>
    unfold bytesOk at ho
    split at ho <;> first | contradiction | skip
    rename_i n r' he
    injection he with he1 he2; subst he1 he2
    split at ho <;> first | contradiction | skip
    rename_i hn
    have hn : n < 256 := by simpa [Nat.blt_eq] using hn
    cases hv
    simp only [valBytes] at h
    split at h <;> first | contradiction | skip
    rename_i l0 hl0
    injection h with h; subst h
    intro j x hx
    cases j with
    | zero =>
      simp at hx ⊢
      subst hx
      simp
      omega
    | succ j =>
      simp at hx ⊢
      exact bytesOk_get ho hl0 ht j x hx
theorem ustr_sim {P : Program} {J B0 : Nat} {w0 : World} {β : B} {s s' : St} {w : World} {ats : Array TypeId} {ty : TypeId} {x x' n n' r : Value} (hR : Rel J B0 w0 β s w) (wf : WF s)
    (h : evUStr P ats.toList x n s = some (r, s')) (hx : VR β x x') (hn : VR β n n') : MemSim P J B0 w0 β s w (Builtin.unsafeString_ ats ty #[x', n']) r s' := by
  obtain ⟨ts⟩ := ats
  unfold evUStr at h
  split at h <;> first | contradiction | skip
  rename_i pt it hts
  simp only at hts
  subst hts
  split at h <;> first | contradiction | skip
  · rename_i e hp
    injection h with h; injection h with h1 h2; subst h1 h2
    cases hx; cases hn
    refine ⟨β, _, w, .refl hR, .string _, ?_⟩
    exact Lib.run_unsafeString_none w pt it ty none
  · rename_i e a hp
    injection h with h; injection h with h1 h2; subst h1 h2
    cases hx with | ptr ha =>
    cases hn
    refine ⟨β, _, w, .refl hR, .string _, ?_⟩
    exact Lib.run_unsafeString_none w pt it ty _
  · rename_i e a m hp
    split at h <;> first | contradiction | skip
    rename_i i cs0 k ez t cs s0 hi hg hty hr hs
    split at h <;> first | contradiction | skip
    rename_i l hsz hte hoff hmx hl
    split at h <;> first | contradiction | skip
    rename_i b hok hb
    injection h with h; injection h with h1 h2; subst h1 h2
    have hsz := Nat.eq_of_beq_eq_true hsz
    have hte := Nat.eq_of_beq_eq_true hte
    subst hte
    have hoff := Nat.eq_of_beq_eq_true hoff
    have hmx := Nat.le_of_ble_eq_true hmx
    cases hx with | ptr ha =>
    cases hn
    obtain ⟨bi, hbi, hsp, rfl⟩ := ha
    obtain ⟨_, _, _, C, e, fr, hC, hlim, hsh, htt, _⟩ := hR.own _ _ _ _ _ _ hbi hg
    have hsh := hsh rfl
    have htt := htt _ hty
    subst htt
    obtain ⟨C1, e1, fr1, hC1, hcell⟩ := hR.rd _ _ _ hbi hr
    rw [hC] at hC1; injection hC1 with hC1; injection hC1 with c1; subst c1
    obtain ⟨g1, g2, g3, g4⟩ := sl_some hl
    obtain ⟨l', hl', hrun⟩ := hR.reads P hbi hr (by rw [hoff]; exact hl)
    have hbl := (valBytes_get hb hl').1
    have e0 : (⟨bi.blk, a.off + bi.sh, none⟩ : Addr) = ⟨bi.blk, 0, none⟩ := by rw [hoff, hsh]
    have hci : ∀ (j : Nat) (x : UInt8), b[j]? = some x → w.cell? ((⟨bi.blk, 0, none⟩ : Addr).add j) = some (.int .u8 x.toNat) := by
      intro j x hx
      have hj : j < l.length := by
        have := (List.getElem?_eq_some_iff.1 hx).1; omega
      have hlj : l[j]? = some l[j] := by simp [hj]
      obtain ⟨v', hv', hvr⟩ := hcell (0 + j) l[j] (g4 j _ hlj)
      have hone : LR β l (l.map fun _ => v') → True := fun _ => trivial
      have hx2 : l[j] = .int .u8 (x.toNat : Int) := by
        have hrefl : ∀ (l : List Value), bytesOk l = true → LR (fun _ => none) l l := by
          intro l
          induction l with
          | nil => intro _; exact .nil
          | cons v r ih =>
            intro ho
            unfold bytesOk at ho
            split at ho <;> first | contradiction | skip
            rename_i n r' he
            injection he with he1 he2; subst he1 he2
            split at ho <;> first | contradiction | skip
            exact .cons (.int _ _) (ih ho)
        have := bytesOk_get hok hb (hrefl l hok) j x hx
        rw [hlj] at this; injection this
      rw [hx2] at hvr
      cases hvr
      rw [addr_add]
      simp only [World.cell?, hC, Option.isSome_none, Bool.false_eq_true, if_false]
      rw [hsh, Nat.zero_add, Nat.add_zero] at hv'
      rw [Nat.zero_add]; exact hv'
    have hne : b ≠ [] := by rintro rfl; simp at hbl; omega
    have hbn : b.length ≤ C.size := by
      obtain ⟨v', hv', _⟩ := hcell (0 + (b.length - 1)) l[b.length - 1] (g4 _ _ (by simp))
      have := (Array.getElem?_eq_some_iff.1 hv').1
      omega
    have hce : P.cellsOf e = 1 := by simp [Program.cellsOf, hi, hsz]
    have hrun2 := Lib.run_unsafeString_row (P := P) w pt it ty e hp hce bi.blk C.size (by simp only [World.shape?, hC]) b hne hbn (by omega) hci
    obtain ⟨r1, r2, r3, r4, r5⟩ := freeze_rest w bi.blk 0 b.length
    refine ⟨β, _, w.freeze ⟨bi.blk, 0, none⟩ b.length, sim_seal hR wf hbi hs r1 r2 r3 r4 r5 (fun C2 e2 fr2 h2 => freeze_at h2 0 b.length), .string _, ?_⟩
    rw [e0]
    have : (Int.ofNat (m + 1) : Int) = (b.length : Int) := by rw [hbl, g1]; rfl
    rw [this]
    exact hrun2

/-- bytealg.MakeNoZero: bytes that nobody has set. -/
def evMNZ (P : Program) (fn : Func) (args : List Value) (s : St) : Option (Value × St) :=
  match fn.name == "internal/bytealg.MakeNoZero", fn.resultTypes[0]?, args with
  | true, some t, [.int .i64 (.ofNat n)] => match P.underlying t with
    | some (.slice e) => match Nat.ble n 140737488351232 with
      | true => some (.slice (some ⟨s.next, 0, none⟩) n n, s.new (List.replicate n (.chan none)) 1 (e + 1))
      | false => none
    | _ => none
  | _, _, _ => none
theorem mnz_U {P : Program} {fn : Func} {args : List Value} {r : Value} {s s' : St} (wf : WF s) (h : evMNZ P fn args s = some (r, s')) : U s s' := by
  unfold evMNZ at h
  repeat' (split at h <;> first | contradiction | skip)
  injection h with h; injection h with h1 h2; subst h2
  exact new_U wf _ _ _
theorem find_mnz (fn : Func) (h : fn.name = "internal/bytealg.MakeNoZero") : Extern.find fn = some (Extern.BytealgMakeNoZero.makeNoZero fn.params fn.resultTypes) := by
  unfold Extern.find
  simp only [h]
  have h1 : Extern.allGenericRows.lookup "internal/bytealg.MakeNoZero" = none := by decide +kernel
  have h2 : Extern.allTypedRows.lookup "internal/bytealg.MakeNoZero" = some Extern.BytealgMakeNoZero.makeNoZero := by kernel_rfl
  rw [h1, h2]
  rfl
theorem digits_size : ∀ (n t : Nat) (acc : Array Value), (Extern.BytealgMakeNoZero.digits n t acc).size = acc.size + n ∧ ∀ (i : Nat) (v : Value), (Extern.BytealgMakeNoZero.digits n t acc)[i]? = some v → acc[i]? = some v ∨ ∃ k : Int, v = .int .u8 k
  | 0, t, acc => ⟨rfl, fun i v h => .inl h⟩
  | n + 1, t, acc => by
    obtain ⟨h1, h2⟩ := digits_size n (t / 256) (acc.push (.int .u8 (Int.ofNat (t % 256))))
    refine ⟨by unfold Extern.BytealgMakeNoZero.digits; rw [h1, Array.size_push]; omega, fun i v h => ?_⟩
    unfold Extern.BytealgMakeNoZero.digits at h
    rcases h2 i v h with g | g
    · rw [Array.getElem?_push] at g
      split at g
      · injection g with g; exact .inr ⟨_, g.symm⟩
      · exact .inl g
    · exact .inr g
theorem mnz_sim {P : Program} {J B0 : Nat} {w0 : World} {β : B} {s s' : St} {w : World} {fn : Func} {f : Nat} {args : List Value} {args' : Array Value} {r : Value} (hR : Rel J B0 w0 β s w) (wf : WF s)
    (h : evMNZ P fn args s = some (r, s')) (hJ : s'.next ≤ J) (ha : LR β args args'.toList) (hf : P.funcs[f]? = some fn) (hb : fn.body = none) (hname : (fn.name == "runtime.NumGoroutine") = false) (hn : extName fn.name = true → Extern.findNext fn = none) :
    ∃ β' v' w', Step J B0 w0 β s w β' s' w' ∧ VR β' r v' ∧ (callFunc f args').run P w = .ok (.value v') w' := by
  unfold evMNZ at h
  split at h <;> first | contradiction | skip
  rename_i t n hnm ht
  split at h <;> first | contradiction | skip
  rename_i e hu
  split at h <;> first | contradiction | skip
  rename_i hle
  have hle := Nat.le_of_ble_eq_true hle
  injection h with h; injection h with h1 h2; subst h1 h2
  have hnm : fn.name = "internal/bytealg.MakeNoZero" := by simpa using hnm
  obtain ⟨l⟩ := args'
  cases ha with | cons h1 h2 =>
  cases h2
  cases h1
  let cap := Question.cut (.appendCap n 0 e) (w.tape w.drawn (.appendCap n 0 e))
  let w1 := w.drew
  let by_ := Question.cut (.extern "internal/bytealg.MakeNoZero.bytes" 0) (w1.tape w1.drawn (.extern "internal/bytealg.MakeNoZero.bytes" 0))
  let C := Extern.BytealgMakeNoZero.digits cap by_ #[]
  have hcap : n ≤ cap := by simp [cap, Question.cut]
  have hC : C.size = cap := by have := (digits_size cap by_ #[]).1; simpa [C] using this
  have hrun : (callFunc f #[.int .i64 (Int.ofNat n)]).run P w = .ok (.value (.slice (some ⟨w.heap.size, 0, none⟩) n cap)) (w1.drew.alloc (.cells C e)) := by
    have := run_callFunc_extern (P := P) (f := f) hf hname (by simp [hb]) (hn (by unfold extName; rw [hnm]; decide)) (find_mnz fn hnm) #[.int .i64 (Int.ofNat n)] w
    rw [this]
    have hn1 : ¬ ((Int.ofNat n : Int) < 0) := by simp
    have hn2 : ¬ ((Int.ofNat n : Int) > 2 ^ 48) := by simp; omega
    have hcond : (decide ((Int.ofNat n : Int) < 0) || decide ((Int.ofNat n : Int) > 2 ^ 48)) = false := by simp only [hn1, hn2, decide_false, Bool.or_false]
    have hnf : Question.forced (.appendCap n 0 e) = false := rfl
    have hnf2 : Question.forced (.extern "internal/bytealg.MakeNoZero.bytes" 0) = false := rfl
    have hdef : Extern.BytealgMakeNoZero.makeNoZero fn.params fn.resultTypes #[.int .i64 (Int.ofNat n)] = (do
        let some t := fn.resultTypes[0]? | stuck "bytealg.MakeNoZero: no result type"
        let .slice elem ← underlying t | stuck "bytealg.MakeNoZero: slice type expected"
        if (Int.ofNat n : Int) < 0 || (Int.ofNat n : Int) > 2 ^ 48 then runtimePanic (.error "makeslice: len out of range")
        let cap ← choose (.appendCap (Int.ofNat n).toNat 0 elem)
        askRoom cap
        let bytes ← choose (.extern "internal/bytealg.MakeNoZero.bytes" 0)
        let a ← newRow elem (Extern.BytealgMakeNoZero.digits cap bytes #[])
        pure (.slice (some a) (Int.ofNat n).toNat cap)) := rfl
    rw [hdef]
    simp only [ht, Sem.run_bind, run_underlying' hu, Result.andThen_ok, hcond, Bool.false_eq_true, if_false, Sem.run_pure, run_choose_drew, run_askRoom, newRow, run_newObj_alloc, show (Int.ofNat n).toNat = n from rfl, hnf, hnf2]
    rfl
  have hst := sim_newW (w' := w1.drew.alloc (.cells C e)) hR.drew.drew wf hJ (cs := List.replicate n (.chan none)) (C := C) (fun j v hv => by
      have hj : j < n := by have := (List.getElem?_eq_some_iff.1 hv).1; simpa using this
      have hv2 : v = .chan none := by
        have := List.mem_of_getElem? hv
        simpa using (List.mem_replicate.1 this).2
      subst hv2
      have hj2 : j < C.size := by omega
      refine ⟨C[j], Array.getElem?_eq_getElem hj2, ?_⟩
      rcases (digits_size cap by_ #[]).2 j C[j] (Array.getElem?_eq_getElem hj2) with g | ⟨k, g⟩
      · simp at g
      · rw [g]; exact .junkZ _ _) 1 rfl rfl rfl (by simp [w1]) (fun j hj => heap_push_old hj) (heap_push_new _ _) (fun j _ => by simp) (ty := e + 1) (fun t h => by simp at h; exact h)
  refine ⟨_, _, _, hst.of_drew.of_drew, .slice (Nat.le_refl _) ⟨_, upd_same _ _ _, rfl, rfl, rfl, .inr rfl, hcap, ?_⟩, hrun⟩
  simp only; omega

end Go.Ev
