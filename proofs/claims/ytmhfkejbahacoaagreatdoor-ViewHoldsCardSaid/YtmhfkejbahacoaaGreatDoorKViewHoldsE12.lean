/- A proved evaluator, part 12: append and copy. No condition. -/
import Derived.Test.YtmhfkejbahacoaaGreatDoorKViewHoldsE11
noncomputable section
namespace Go.Ev
open Go.RowKit
set_option linter.unusedVariables false
variable [Lk]
set_option linter.unusedSectionVars false

/-- What is appended: how many elements, their cells. -/
def elemsOf (s : St) (size : Nat) (x : Value) : Option (Nat × List Value) :=
  match x with
  | .slice none _ _ => some (0, [])
  | .slice (some b) m _ => match s.rd b.block with
    | some cs => match sl cs b.off (m * size) with
      | some l => some (m, l)
      | none => none
    | none => none
  | .string t => match Nat.beq size 1 with
    | true => some ((bs t).length, byteVals (bs t))
    | false => none
  | _ => none
/-- The first n elements of it. -/
def firstOf (s : St) (size n : Nat) (x : Value) : Option (List Value) :=
  match x with
  | .slice none _ _ => some []
  | .slice (some b) _ _ => match s.rd b.block with
    | some cs => sl cs b.off (n * size)
    | none => none
  | .string t => match Nat.beq size 1 with
    | true => some (byteVals ((bs t).take n))
    | false => none
  | _ => none

theorem elems_sim {P : Program} {J B0 : Nat} {w0 : World} {β : B} {s : St} {w : World} {size m : Nat} {x x' : Value} {l : List Value} (hR : Rel J B0 w0 β s w) (h : elemsOf s size x = some (m, l)) (hx : VR β x x') :
    l.length = m * size ∧ ∃ l', LR β l l' ∧ (∀ w, (Builtin.lenOf x').run P w = .ok m w) ∧ (Builtin.firstCells size m x').run P w = .ok l'.toArray w := by
  unfold elemsOf at h
  split at h <;> first | contradiction | skip
  · injection h with h; injection h with h1 h2; subst h1 h2
    cases hx
    exact ⟨by simp, [], .nil, fun w => rfl, rfl⟩
  · rename_i b n c
    cases hx with | slice hn hs =>
    split at h <;> first | contradiction | skip
    rename_i cs hr
    split at h <;> first | contradiction | skip
    rename_i l0 hl
    injection h with h; injection h with h1 h2; subst h1 h2
    obtain ⟨l', hl', hrun⟩ := slice_cells (P := P) hR hn hs hr hl
    exact ⟨(sl_some hl).1, l', hl', fun w => rfl, hrun⟩
  · rename_i t
    cases hx
    split at h <;> first | contradiction | skip
    rename_i hsz
    have hsz := Nat.eq_of_beq_eq_true hsz
    subst hsz
    injection h with h; injection h with h1 h2; subst h1 h2
    refine ⟨by simp [byteVals], byteVals (bs t), LR.of_get rfl (fun i x y hx hy => ?_), fun w => rfl, ?_⟩
    · rw [hx] at hy; injection hy with hy; subst hy
      simp only [byteVals, List.getElem?_map, Option.map_eq_some_iff] at hx
      obtain ⟨b, _, rfl⟩ := hx
      exact .int _ _
    · simp only [Builtin.firstCells, Sem.run_pure]
      congr 1
      apply Array.ext'
      rw [extract_eq]
      simp [byteVals]
theorem first_sim {P : Program} {J B0 : Nat} {w0 : World} {β : B} {s : St} {w : World} {size n : Nat} {x x' : Value} {l : List Value} (hR : Rel J B0 w0 β s w) (h : firstOf s size n x = some l) (hx : VR β x x') (hm : ∀ a k c, x = .slice a k c → n ≤ k) (hms : ∀ t, x = .string t → n ≤ (bs t).length) :
    ∃ l', LR β l l' ∧ (Builtin.firstCells size n x').run P w = .ok l'.toArray w := by
  unfold firstOf at h
  split at h <;> first | contradiction | skip
  · injection h with h; subst h
    cases hx
    exact ⟨[], .nil, rfl⟩
  · rename_i b k c
    cases hx with | slice hn hs =>
    split at h <;> first | contradiction | skip
    rename_i cs hr
    have hk := hm _ _ _ rfl
    obtain ⟨l', hl', hrun⟩ := slice_cells (P := P) (n := n) hR (by omega) hs hr h
    exact ⟨l', hl', hrun⟩
  · rename_i t
    cases hx
    split at h <;> first | contradiction | skip
    rename_i hsz
    have hsz := Nat.eq_of_beq_eq_true hsz
    subst hsz
    injection h with h; subst h
    refine ⟨byteVals ((bs t).take n), LR.of_get rfl (fun i x y hx hy => ?_), ?_⟩
    · rw [hx] at hy; injection hy with hy; subst hy
      simp only [byteVals, List.getElem?_map, Option.map_eq_some_iff] at hx
      obtain ⟨b, _, rfl⟩ := hx
      exact .int _ _
    · simp only [Builtin.firstCells, Sem.run_pure]
      congr 1
      apply Array.ext'
      rw [extract_eq]
      simp [byteVals]

def isIntDesc : TypeDesc → Bool
  | .int _ => true
  | _ => false
/-- Is there surely room for that many elements of that many bytes? -/
def roomOk (need bytes : Nat) : Bool := Nat.ble need 281474976710656 && Nat.ble ((need + need / 4 + 1024) * bytes) 281474976710656

def evAppend (P : Program) (sT xT : TypeId) (sv x : Value) (s : St) : Option (Value × St) :=
  match P.underlying sT, P.underlying xT with
  | some (.slice e), some d => match isIntDesc d, P.info? e with
    | false, some i => match i.zero with
      | some z => match closedV 6 z, Nat.beq z.cells.size i.size, Nat.blt 0 i.size, Nat.blt 0 i.bytes, elemsOf s i.size x with
        | true, true, true, true, some (m, new) => match new.all (·.oneCell') with
          | true => match sv with
            | .slice none 0 0 => match Nat.beq m 0 with
              | true => some (.slice none 0 0, s)
              | false => match roomOk m i.bytes with
                | true => some (.slice (some ⟨s.next, 0, none⟩) m m, s.new new i.size (e + 1))
                | false => none
            | .slice (some a) n c => match Nat.ble (n + m) c, Nat.beq m 0 with
              | true, true => some (.slice (some a) n c, s)
              | true, false => match s.write a.block (a.off + n * i.size) new, blkEsz s a.block with
                | some s', some z => match Nat.beq z i.size with
                  | true => some (.slice (some a) (n + m) c, s')
                  | false => none
                | _, _ => none
              | false, _ => match roomOk (n + m) i.bytes, s.rd a.block, blkEsz s a.block with
                | true, some cs, some z => match Nat.beq z i.size, sl cs a.off (n * i.size) with
                  | true, some old => match s.extend a.block a.off old new (e + 1) with
                    | some s' => some (.slice (some ⟨s.next, 0, none⟩) (n + m) (n + m), s')
                    | none => none
                  | _, _ => none
                | _, _, _ => none
            | _ => none
          | false => none
        | _, _, _, _, _ => none
      | none => none
    | _, _ => none
  | _, _ => none

theorem append_U {P : Program} {sT xT : TypeId} {sv x r : Value} {s s' : St} (wf : WF s) (h : evAppend P sT xT sv x s = some (r, s')) : U s s' := by
  unfold evAppend at h
  repeat' (split at h <;> first | contradiction | skip)
  all_goals (injection h with h; injection h with h1 h2; subst h2; first | exact U.refl wf | exact new_U wf _ _ _ | exact write_U wf (by assumption) | exact extend_U wf (by assumption))

theorem nextcap_le {need c : Nat} (h : c < need) : Builtin.nextslicecap need c ≤ need + need / 4 + 1024 := by
  unfold Builtin.nextslicecap
  split
  · omega
  · split
    · omega
    · simp only [Builtin.growBy]
      repeat' split
      all_goals omega
theorem room_spec {need bytes c : Nat} (h : roomOk need bytes = true) (hc : c < need) : ¬ Builtin.nextslicecap need c * bytes > 2 ^ 48 ∧ need ≤ 281474976710656 := by
  unfold roomOk at h
  simp only [Bool.and_eq_true] at h
  have h1 := Nat.le_of_ble_eq_true h.1
  have h2 := Nat.le_of_ble_eq_true h.2
  have h3 := Nat.mul_le_mul_right bytes (nextcap_le hc)
  refine ⟨by omega, h1⟩

/-- In place. -/
theorem run_append_in {P : Program} {w w' : World} {sT xT ty e : TypeId} {d : TypeDesc} {i : TypeInfo} {base : Option Addr} {n c m : Nat} {x' : Value} {new : Array Value} {ats : Array TypeId} {xs : Array Value}
    (hat : ats[0]? = some sT) (hat1 : ats[1]? = some xT) (hx0 : xs[0]? = some (.slice base n c)) (hx1 : xs[1]? = some x')
    (hu : P.underlying sT = some (.slice e)) (hd : P.underlying xT = some d) (hni : isIntDesc d = false) (hi : P.info? e = some i)
    (hlen : ∀ w, (Builtin.lenOf x').run P w = .ok m w) (hfc : (Builtin.firstCells i.size m x').run P w = .ok new w) (hroom : n + m ≤ c)
    (hst : ∀ a, base = some a → (storeCells (a.add (n * i.size)) new.toList).run P w = .ok () w') (hnone : base = none → w' = w) :
    (Builtin.append_ ats ty xs).run P w = .ok (.slice base (n + m) c) w' := by
  simp only [Builtin.append_, hat, hat1, hx0, hx1, Sem.run_bind, run_underlying' hu, run_underlying' hd, Result.andThen_ok, run_sizeOf' hi, Sem.run_pure]
  cases base with
  | none =>
    obtain rfl := hnone rfl
    cases d <;> first
      | (simp [isIntDesc] at hni; done)
      | simp only [Bool.false_eq_true, if_false, Sem.run_bind, hlen, Result.andThen_ok, if_pos hroom, hfc, Bool.not_false, if_true, Sem.run_pure]
  | some a =>
    have := hst a rfl
    cases d <;> first
      | (simp [isIntDesc] at hni; done)
      | simp only [Bool.false_eq_true, if_false, Sem.run_bind, hlen, Result.andThen_ok, if_pos hroom, hfc, Bool.not_false, if_true, Sem.run_pure, this]

/-- Into a new block. -/
theorem run_append_out {P : Program} {w : World} {sT xT ty e : TypeId} {d : TypeDesc} {i : TypeInfo} {z : Value} {base : Option Addr} {n c m : Nat} {x' : Value} {old new : Array Value} {ats : Array TypeId} {xs : Array Value}
    (hat : ats[0]? = some sT) (hat1 : ats[1]? = some xT) (hx0 : xs[0]? = some (.slice base n c)) (hx1 : xs[1]? = some x')
    (hu : P.underlying sT = some (.slice e)) (hd : P.underlying xT = some d) (hni : isIntDesc d = false) (hi : P.info? e = some i) (hz : i.zero = some z) (hbp : 0 < i.bytes)
    (hlen : ∀ w, (Builtin.lenOf x').run P w = .ok m w) (hfo : (Builtin.firstCells i.size n (.slice base n c)).run P w.drew = .ok old w.drew) (hfc : (Builtin.firstCells i.size m x').run P w.drew = .ok new w.drew) (hroom : ¬ n + m ≤ c)
    (hok : roomOk (n + m) i.bytes = true) :
    ∃ nc, n + m ≤ nc ∧ (Builtin.append_ ats ty xs).run P w = .ok (.slice (some ⟨w.heap.size, 0, none⟩) (n + m) nc) (w.drew.alloc (.cells (old ++ new ++ Builtin.zeroCells z.cells (nc - (n + m))) e)) := by
  obtain ⟨g1, g2⟩ := room_spec hok (show c < n + m by omega)
  have g3 : ¬ (((n + m : Nat) : Int) > IntKind.i64.max ∧ (False ∨ i.bytes = 0)) := fun h => by rcases h.2 with h | h <;> omega
  refine ⟨Question.cut (.appendCap (n + m) c e) (w.tape w.drawn (.appendCap (n + m) c e)), by simp [Question.cut], ?_⟩
  have hnf : Question.forced (.appendCap (n + m) c e) = false := rfl
  simp only [Builtin.append_, hat, hat1, hx0, hx1, Sem.run_bind, run_underlying' hu, run_underlying' hd, Result.andThen_ok, run_sizeOf' hi, Sem.run_pure]
  cases d <;> first
    | (simp [isIntDesc] at hni; done)
    | (simp only [Bool.false_eq_true, if_false, Sem.run_bind, hlen, Result.andThen_ok, if_neg hroom, run_typeInfo' hi, if_neg g3, if_neg g1, run_choose_drew, hnf, run_askRoom, hfo, Bool.not_false, if_true, hfc, run_zero' hi hz, newRow, run_newObj_alloc, Sem.run_pure]; rfl)

theorem append_sim {P : Program} {J B0 : Nat} {w0 : World} {β : B} {s s' : St} {w : World} {sT xT ty : TypeId} {sv sv' x x' r : Value} {ats : Array TypeId} {xs : Array Value} (hR : Rel J B0 w0 β s w) (wf : WF s)
    (h : evAppend P sT xT sv x s = some (r, s')) (hJ : s'.next ≤ J) (hs : VR β sv sv') (hx : VR β x x') (hat : ats[0]? = some sT) (hat1 : ats[1]? = some xT) (hx0 : xs[0]? = some sv') (hx1 : xs[1]? = some x') :
    MemSim P J B0 w0 β s w (Builtin.append_ ats ty xs) r s' := by
  unfold evAppend at h
  split at h <;> first | contradiction | skip
  rename_i e d hu hd
  split at h <;> first | contradiction | skip
  rename_i i hni hi
  split at h <;> first | contradiction | skip
  rename_i z hz
  split at h <;> first | contradiction | skip
  rename_i m new hcz hzs hpos hbp hel
  have hzs := Nat.eq_of_beq_eq_true hzs
  have hpos : 0 < i.size := by simpa [Nat.blt_eq] using hpos
  have hbp : 0 < i.bytes := by simpa [Nat.blt_eq] using hbp
  split at h <;> first | contradiction | skip
  rename_i hall
  obtain ⟨hnl, new', hnew, hlen, hfc⟩ := elems_sim (P := P) hR hel hx
  obtain ⟨_, new2, hnew2, _, hfcd⟩ := elems_sim (P := P) hR.drew hel hx
  have h1c := hnew.oneCell (fun v hv => List.all_eq_true.1 hall v hv)
  have hll := hnew.length
  split at h <;> first | contradiction | skip
  · cases hs
    split at h <;> first | contradiction | skip
    · rename_i hm0
      have hm0 := Nat.eq_of_beq_eq_true hm0
      subst hm0
      injection h with h; injection h with h1 h2; subst h1 h2
      refine ⟨β, _, w, .refl hR, .nils, ?_⟩
      exact run_append_in hat hat1 hx0 hx1 hu hd hni hi hlen hfc (Nat.le_refl 0) (fun a h => by cases h) (fun _ => rfl)
    · rename_i hm0
      have hm0 : m ≠ 0 := Nat.ne_of_beq_eq_false hm0
      split at h <;> first | contradiction | skip
      rename_i hok
      injection h with h; injection h with h1 h2; subst h1 h2
      have hfo : (Builtin.firstCells i.size 0 (.slice none 0 0)).run P w.drew = .ok #[] w.drew := rfl
      obtain ⟨nc, hnc, hrun⟩ := run_append_out (P := P) (ty := ty) hat hat1 hx0 hx1 hu hd hni hi hz hbp hlen hfo hfcd (by omega) (by rw [Nat.zero_add]; exact hok)
      rw [Nat.zero_add] at hnc hrun
      have hC : ((#[] ++ new2.toArray ++ Builtin.zeroCells z.cells (nc - m)) : Array Value).size = nc * i.size := by
        have := hnew2.length
        simp only [Builtin.zeroCells, Array.size_append, List.size_toArray, Array.size_map, Array.size_range, hzs]
        rw [← this, hnl]
        rw [List.length_nil, Nat.zero_add, ← Nat.add_mul]; congr 1; omega
      have hst := sim_newW (w' := w.drew.alloc (.cells (#[] ++ new2.toArray ++ Builtin.zeroCells z.cells (nc - m)) e)) hR.drew wf hJ (cs := new) (C := #[] ++ new2.toArray ++ Builtin.zeroCells z.cells (nc - m)) (fun j v hv => by
          obtain ⟨v', hv', hr⟩ := hnew2.get hv
          refine ⟨v', ?_, hr⟩
          have hj : j < new2.length := by
            rcases Nat.lt_or_ge j new2.length with g | g
            · exact g
            · rw [List.getElem?_eq_none g] at hv'; cases hv'
          rw [Array.getElem?_append, if_pos (by simpa using hj)]
          simpa using hv') i.size rfl rfl rfl (by simp) (fun j hj => heap_push_old hj) (heap_push_new _ _) (fun j _ => by simp) (ty := e + 1) (fun t h => by simp at h; exact h)
      refine ⟨_, _, _, hst.of_drew, .slice (Nat.le_refl _) ⟨_, upd_same _ _ _, rfl, rfl, rfl, .inr rfl, hnc, ?_⟩, hrun⟩
      simp only; rw [hC]; omega
  · rename_i a n c
    cases hs with | slice hn hsr =>
    rename_i a' c'
    have hsr0 := hsr
    obtain ⟨bi, s1, s2, s3, s4, s5, s6, s7⟩ := hsr
    split at h <;> first | contradiction | skip
    · rename_i hle hm0
      have hm0 := Nat.eq_of_beq_eq_true hm0
      subst hm0
      injection h with h; injection h with h1 h2; subst h1 h2
      have hnew0 : new' = [] := by
        have : new'.length = 0 := by rw [← hll, hnl]; simp
        exact List.length_eq_zero_iff.1 this
      subst hnew0
      refine ⟨β, _, w, .refl hR, .slice hn hsr0, ?_⟩
      have hle := Nat.le_of_ble_eq_true hle
      have := run_append_in (P := P) (w := w) (w' := w) (ty := ty) hat hat1 hx0 hx1 hu hd hni hi hlen hfc (by omega) (fun a0 _ => by rfl) (fun h => by cases h)
      simpa using this
    · rename_i hle hm0
      have hm0 : m ≠ 0 := Nat.ne_of_beq_eq_false hm0
      split at h <;> first | contradiction | skip
      rename_i s0 ez hw hez
      split at h <;> first | contradiction | skip
      rename_i hzz
      injection h with h; injection h with h1 h2; subst h1 h2
      have hle := Nat.le_of_ble_eq_true hle
      have hzz := Nat.eq_of_beq_eq_true hzz
      have hbe := hR.esz s1 hez
      have ha' : a' = ⟨bi.blk, a.off + bi.sh, none⟩ := by
        have : a'.off = a.off + bi.sh := by rcases s5 with g | g <;> omega
        cases a'; simp_all
      subst ha'
      obtain ⟨r1, r2⟩ := sim_write hR wf s1 hw hnew h1c P
      refine ⟨β, _, _, r2, .slice hle hsr0, ?_⟩
      refine run_append_in hat hat1 hx0 hx1 hu hd hni hi hlen hfc (by omega) (fun a0 ha0 => ?_) (fun h => by cases h)
      injection ha0 with ha0; subst ha0
      rw [addr_add]
      rw [show a.off + bi.sh + n * i.size = a.off + n * i.size + bi.sh by omega]
      exact r1
    · rename_i hle hel'
      have hle : ¬ n + m ≤ c := fun h => by rw [Nat.ble_eq_true_of_le h] at hel'; cases hel'
      split at h <;> first | contradiction | skip
      rename_i cs ez hok hr hez
      split at h <;> first | contradiction | skip
      rename_i old hzz hsl
      split at h <;> first | contradiction | skip
      rename_i s0 hext
      injection h with h; injection h with h1 h2; subst h1 h2
      have hzz := Nat.eq_of_beq_eq_true hzz
      have hbe := hR.esz s1 hez
      have hol := (sl_some hsl).1
      have hsl' : sl cs a.off old.length = some old := by rw [hol]; exact hsl
      have hnx : s.next + 1 ≤ J := by obtain ⟨_, _, _, _, _, _, _, _, _, _, he⟩ := extend_some hext; subst he; exact hJ
      by_cases hin : n + m ≤ c'
      · have ha' : a' = ⟨bi.blk, a.off + bi.sh, none⟩ := by
          have : a'.off = a.off + bi.sh := by rcases s5 with g | g <;> omega
          cases a'; simp_all
        subst ha'
        have hlim : a.off + bi.sh + old.length + new'.length ≤ bi.lim := by
          have e1 : (n + m) * i.size ≤ c' * i.size := Nat.mul_le_mul_right _ hin
          rw [Nat.add_mul] at e1
          rw [hbe, hzz] at s7
          simp only at s7
          omega
        obtain ⟨r1, r2⟩ := sim_extend_in hR wf s1 hr hsl' hext hnew h1c hlim hnx P
        refine ⟨_, _, _, r2, .slice (Nat.le_refl _) ⟨_, upd_same _ _ _, rfl, rfl, rfl, .inr (by simp), hin, s7⟩, ?_⟩
        refine run_append_in hat hat1 hx0 hx1 hu hd hni hi hlen hfc hin (fun a0 ha0 => ?_) (fun h => by cases h)
        injection ha0 with ha0; subst ha0
        rw [addr_add, ← hol]
        exact r1
      · obtain ⟨old', hold, hfo⟩ := slice_cells (P := P) (w := w.drew) (size := i.size) hR.drew hn hsr0 hr hsl
        have hfo' : (Builtin.firstCells i.size n (.slice (some a') n c')).run P w.drew = .ok old'.toArray w.drew := hfo
        obtain ⟨nc, hnc, hrun⟩ := run_append_out (P := P) (ty := ty) hat hat1 hx0 hx1 hu hd hni hi hz hbp hlen hfo' hfcd hin hok
        have hC : ((old'.toArray ++ new2.toArray ++ Builtin.zeroCells z.cells (nc - (n + m))) : Array Value).size = nc * i.size := by
          have l1 := hnew2.length
          have l2 := hold.length
          simp only [Builtin.zeroCells, Array.size_append, List.size_toArray, Array.size_map, Array.size_range, hzs]
          rw [← l1, ← l2, hnl, hol]
          rw [← Nat.add_mul, ← Nat.add_mul]; congr 1; omega
        have hst := sim_extend_out (C := old'.toArray ++ new2.toArray ++ Builtin.zeroCells z.cells (nc - (n + m))) hR.drew wf s1 hr hext (fun j v hv => by
            obtain ⟨v', hv', hr⟩ := (hold.append hnew2).get hv
            refine ⟨v', ?_, hr⟩
            have hj : j < (old' ++ new2).length := by
              rcases Nat.lt_or_ge j (old' ++ new2).length with g | g
              · exact g
              · rw [List.getElem?_eq_none g] at hv'; cases hv'
            rw [Array.getElem?_append, if_pos (by simpa using hj)]
            simpa using hv') hnx e (fun t h => by simp at h; exact h)
        refine ⟨_, _, _, hst.of_drew, .slice (Nat.le_refl _) ⟨_, upd_same _ _ _, rfl, rfl, rfl, .inr rfl, hnc, ?_⟩, hrun⟩
        simp only; rw [hC, hbe, hzz]; omega

def evCopy (P : Program) (dT : TypeId) (dv x : Value) (s : St) : Option (Value × St) :=
  match P.underlying dT with
  | some (.slice e) => match P.info? e with
    | some i => match dv with
      | .slice db n _ => match (match x with
          | .slice _ k _ => some k
          | .string t => some (bs t).length
          | _ => none) with
        | some k => match firstOf s i.size (Nat.min k n) x with
          | some l => match l, db with
            | [], _ => some (.int .i64 (Nat.min k n : Nat), s)
            | _ :: _, some a => match l.all (·.oneCell'), s.write a.block a.off l with
              | true, some s' => some (.int .i64 (Nat.min k n : Nat), s')
              | _, _ => none
            | _, _ => none
          | none => none
        | none => none
      | _ => none
    | none => none
  | _ => none
theorem copy_U {P : Program} {dT : TypeId} {dv x r : Value} {s s' : St} (wf : WF s) (h : evCopy P dT dv x s = some (r, s')) : U s s' := by
  unfold evCopy at h
  repeat' (split at h <;> first | contradiction | skip)
  all_goals (injection h with h; injection h with h1 h2; subst h2; first | exact U.refl wf | exact write_U wf (by assumption))
theorem copy_sim {P : Program} {J B0 : Nat} {w0 : World} {β : B} {s s' : St} {w : World} {dT ty : TypeId} {dv dv' x x' r : Value} {ats : Array TypeId} {xs : Array Value} (hR : Rel J B0 w0 β s w) (wf : WF s)
    (h : evCopy P dT dv x s = some (r, s')) (hs : VR β dv dv') (hx : VR β x x') (hat : ats[0]? = some dT) (hx0 : xs[0]? = some dv') (hx1 : xs[1]? = some x') :
    MemSim P J B0 w0 β s w (Builtin.copy_ ats ty xs) r s' := by
  unfold evCopy at h
  split at h <;> first | contradiction | skip
  rename_i e hu
  split at h <;> first | contradiction | skip
  rename_i i hi
  split at h <;> first | contradiction | skip
  rename_i db n c
  split at h <;> first | contradiction | skip
  rename_i k hk
  split at h <;> first | contradiction | skip
  rename_i l hl
  have hkl : ∀ w, (Builtin.lenOf x').run P w = .ok k w := by
    split at hk <;> first | contradiction | skip
    · injection hk with hk; subst hk; cases hx <;> (intro w; rfl)
    · injection hk with hk; subst hk; cases hx; intro w; rfl
  obtain ⟨l', hl', hfc⟩ := first_sim (P := P) hR hl hx (fun a k0 c0 e => by subst e; simp only at hk; injection hk with hk; subst hk; exact Nat.min_le_left _ _) (fun t e => by subst e; simp only at hk; injection hk with hk; subst hk; exact Nat.min_le_left _ _)
  split at h <;> first | contradiction | skip
  · injection h with h; injection h with h1 h2; subst h1 h2
    cases hl'
    refine ⟨β, _, w, .refl hR, .int _ _, ?_⟩
    cases hs with
    | nils => simp only [Builtin.copy_, hat, hx0, hx1, Sem.run_bind, run_underlying' hu, Result.andThen_ok, hkl, run_sizeOf' hi, hfc, Sem.run_pure]; rfl
    | slice _ _ => simp only [Builtin.copy_, hat, hx0, hx1, Sem.run_bind, run_underlying' hu, Result.andThen_ok, hkl, run_sizeOf' hi, hfc, Sem.run_pure]; rfl
  · rename_i v0 r0 a
    split at h <;> first | contradiction | skip
    rename_i s0 hall hw
    injection h with h; injection h with h1 h2; subst h1 h2
    have h1c := hl'.oneCell (fun v hv => List.all_eq_true.1 hall v hv)
    cases hs with | slice hn hsr =>
    rename_i a' c'
    have hpos : 0 < n := by
      rcases Nat.eq_zero_or_pos n with g | g
      · subst g
        exfalso
        have hmin : Nat.min k 0 = 0 := Nat.min_zero k
        rw [hmin] at hl
        unfold firstOf at hl
        split at hl
        · simp at hl
        · split at hl
          · have := (sl_some hl).1
            simp at this
          · cases hl
        · split at hl
          · simp [byteVals] at hl
          · cases hl
        · cases hl
      · exact g
    obtain ⟨bi, hb, rfl⟩ := slice_addr hn hsr hpos
    obtain ⟨q1, q2⟩ := sim_write hR wf hb hw hl' h1c P
    refine ⟨β, _, _, q2, .int _ _, ?_⟩
    simp only [Builtin.copy_, hat, hx0, hx1, Sem.run_bind, run_underlying' hu, Result.andThen_ok, hkl, run_sizeOf' hi, hfc, Sem.run_pure, q1]
    rfl

end Go.Ev
