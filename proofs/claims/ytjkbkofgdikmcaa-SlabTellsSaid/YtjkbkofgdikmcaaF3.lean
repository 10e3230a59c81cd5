/- From the steps to a law over any input, further: slices of structs of numbers and texts. No condition. -/
import Derived.Test.YtjkbkofgdikmcaaF1
import Derived.ChangeArms
noncomputable section
namespace Go.Ev
open Go.RowKit Go.ChangeShapes Go.WideShapes
set_option linter.unusedVariables false

/-- A field's kind. -/
inductive FK where
  | int (k : IntKind)
  | str
def FK.fits : FK → Value → Prop
  | .int k, .int k' n => k' = k ∧ (Lit.int k n).wf = true
  | .str, .string s => (bs s).length ≤ 140737488351232
  | _, _ => False
def Fits : List FK → List Value → Prop
  | [], [] => True
  | k :: ks, x :: xs => k.fits x ∧ Fits ks xs
  | _, _ => False
def FK.ofT (P : Program) (t : TypeId) : FK → Bool
  | .int k => match P.underlying t with
    | some (.int k') => decide (k' = k)
    | _ => false
  | .str => match P.underlying t with
    | some .string => true
    | _ => false
/-- The fields of a struct, from the i-th cell on. -/
def flatF (P : Program) : Nat → List Field → List FK → Bool
  | _, [], [] => true
  | i, f :: fs, k :: ks => Nat.beq f.offset i && Nat.beq (P.cellsOf f.type) 1 && k.ofT P f.type && flatF P (i + 1) fs ks
  | _, _, _ => false
theorem fits_of {H : Type} {enc : TypeId × Value → H} {P : Program} {W : World} {base : Nat} {spare : Nat → Bool} {held : Bool} {n : Nat} (cs : List Value) : ∀ (fs : List Field) (ks : List FK) (i : Nat) (xs : List (DataW H × List MemPlace)),
    flatF P i fs ks = true → xs.length = fs.length → (∀ (j : Nat) (f : Field), fs[j]? = some f → DataW.trod enc P W base spare held n f.type ((cs.drop f.offset).take (P.cellsOf f.type)) = xs[j]?) →
    (∀ m ∈ DataW.weightsEach P (fs.map (·.type)) (xs.map (·.1)), m ≤ 140737488351232) → Fits ks ((cs.drop i).take fs.length)
  | [], [], i, xs, _, _, _, _ => by simp [Fits]
  | [], _ :: _, i, xs, h, _, _, _ => by simp [flatF] at h
  | _ :: _, [], i, xs, h, _, _, _ => by simp [flatF] at h
  | f :: fs, k :: ks, i, xs, h, hl, hx, hw => by
    simp only [flatF, Bool.and_eq_true] at h
    obtain ⟨⟨⟨h1, h2⟩, h3⟩, h4⟩ := h
    have h1 := Nat.eq_of_beq_eq_true h1
    have h2 := Nat.eq_of_beq_eq_true h2
    match xs, hl with
    | x :: xs, hl =>
    have ih := fits_of cs fs ks (i + 1) xs h4 (by simpa using hl) (fun j g hg => by simpa using hx (j + 1) g (by simpa using hg)) (fun m hm => hw m (by
      simp only [List.map_cons, DataW.weightsEach, List.mem_append]
      exact .inr hm))
    have h0 := hx 0 f rfl
    simp only [List.getElem?_cons_zero, h1, h2] at h0
    have hw0 : ∀ m ∈ x.1.weights P f.type, m ≤ 140737488351232 := fun m hm => hw m (by
      simp only [List.map_cons, DataW.weightsEach, List.mem_append]
      exact .inl hm)
    have key : ∃ v, (cs.drop i).take 1 = [v] ∧ k.fits v := by
      cases k with
      | int k =>
        simp only [FK.ofT] at h3
        split at h3
        · rename_i k' hu
          have := of_decide_eq_true h3; subst this
          obtain ⟨m, g1, g2, g3⟩ := DataW.trod_int hu h0
          exact ⟨_, g1, rfl, g3⟩
        · cases h3
      | str =>
        simp only [FK.ofT] at h3
        split at h3
        · rename_i hu
          obtain ⟨m, g1, g2, g3⟩ := DataW.trod_string hu h0
          refine ⟨_, g1, ?_⟩
          have := hw0 (bs m).length (by rw [g2]; simp [DataW.weights, bs])
          exact this
        · cases h3
    obtain ⟨v, g1, g2⟩ := key
    have hd : ∃ r, cs.drop i = v :: r := by
      cases hcd : cs.drop i with
      | nil => rw [hcd] at g1; simp at g1
      | cons w r => rw [hcd] at g1; simp at g1; exact ⟨r, by rw [g1]⟩
    obtain ⟨r, hr⟩ := hd
    have hr2 : cs.drop (i + 1) = r := by rw [← List.drop_drop, hr]; rfl
    rw [hr2] at ih
    rw [hr]
    exact ⟨g2, ih⟩
theorem Fits.length : ∀ {ks : List FK} {xs : List Value}, Fits ks xs → xs.length = ks.length
  | [], [], _ => rfl
  | k :: ks, x :: xs, h => by simp [Fits.length h.2]
  | [], _ :: _, h => h.elim
  | _ :: _, [], h => h.elim
theorem Fits.closed : ∀ {ks : List FK} {xs : List Value}, Fits ks xs → ∀ x ∈ xs, closedV 6 x = true
  | [], [], _, x, hx => by cases hx
  | k :: ks, y :: xs, h, x, hx => by
    rcases List.mem_cons.1 hx with rfl | hx
    · cases k <;> cases x <;> first | rfl | exact h.1.elim
    · exact Fits.closed h.2 x hx
  | [], _ :: _, h, _, _ => h.elim
  | _ :: _, [], h, _, _ => h.elim
theorem weights_all {H : Type} {P : Program} {e : TypeId} : ∀ {ds : List (DataW H)} {d : DataW H}, d ∈ ds → ∀ n ∈ d.weights P e, n ∈ DataW.weightsAll P e ds
  | d0 :: ds, d, hd, n, hn => by
    simp only [DataW.weightsAll, List.mem_append]
    rcases List.mem_cons.1 hd with rfl | hd
    · exact .inl hn
    · exact .inr (weights_all hd n hn)
  | [], _, hd, _, _ => by cases hd
theorem cells_get {W : World} {base : Nat} {a : Addr} (hsp : a.spot = none) {C : Array Value} {t : TypeId} {fr : Nat × Nat} (hC : W.heap[a.block]? = some (.cells C t fr)) {m : Nat} {cs : List Value} (h : W.cells? base a m = some cs) : cs.length = m ∧ ∀ (j : Nat) (x : Value), cs[j]? = some x → C[a.off + j]? = some x := by
  unfold World.cells? at h
  split at h
  · have hlen := mapM_some_length h
    refine ⟨by simpa using hlen, fun j x hx => ?_⟩
    have hj : j < m := by
      have := (List.getElem?_eq_some_iff.1 hx).1
      rw [hlen] at this; simpa using this
    have := mapM_some_get h j j (by simp [hj])
    rw [hx] at this
    unfold World.cell? at this
    have e2 : (a.add j) = ⟨a.block, a.off + j, none⟩ := by
      obtain ⟨ab, ao, asp⟩ := a
      simp only at hsp; subst hsp
      exact addr_add _ _ _
    rw [e2] at this
    simp only [hC, Option.isSome_none, Bool.false_eq_true, if_false] at this
    exact this
  · cases h
theorem flatten_get (e : Nat) : ∀ (rows : List (List Value)), (∀ r ∈ rows, r.length = e) → ∀ (i : Nat) (x : Value), rows.flatten[i]? = some x → ∃ k j r, rows[k]? = some r ∧ r[j]? = some x ∧ i = k * e + j ∧ j < e
  | [], _, i, x, h => by simp at h
  | r :: rows, hr, i, x, h => by
    have hrl := hr r (by simp)
    rw [List.flatten_cons] at h
    by_cases hi : i < e
    · rw [List.getElem?_append_left (by omega)] at h
      exact ⟨0, i, r, rfl, h, by omega, hi⟩
    · rw [List.getElem?_append_right (by omega), hrl] at h
      obtain ⟨k, j, r', h1, h2, h3, h4⟩ := flatten_get e rows (fun r h => hr r (List.mem_cons_of_mem _ h)) _ x h
      exact ⟨k + 1, j, r', h1, h2, by rw [Nat.add_mul]; omega, h4⟩
theorem flatten_len (e : Nat) : ∀ (rows : List (List Value)), (∀ r ∈ rows, r.length = e) → rows.flatten.length = rows.length * e
  | [], _ => by simp
  | r :: rows, hr => by
    have := flatten_len e rows (fun r h => hr r (List.mem_cons_of_mem _ h))
    have hrl := hr r (by simp)
    simp only [List.flatten_cons, List.length_append, List.length_cons, Nat.add_mul]; omega
/-- A slice of structs of numbers and texts, opened. -/
theorem open_flat {H : Type} {enc : TypeId × Value → H} {P : Program} {W : World} {base base' : Nat} {spare : Nat → Bool} {held : Bool} {t e : TypeId} {fs : Array Field} (ks : List FK) {v : Value} {d : DataW H} {ps : List MemPlace} (hu : P.underlying t = some (.slice e)) (hs : P.underlying e = some (.struct fs))
    (hf : flatF P 0 fs.toList ks = true) (hc : P.cellsOf e = ks.length) (hc2 : fs.size = ks.length) (hB : 0 < P.bytesOf e) (hok : Value.okWide P W .any base t v) (h : DataW.Trod enc P W base' spare held t v d ps) (hw : ∀ m ∈ d.weights P t, m ≤ 140737488351232) :
    ∃ rows : List (List Value), CArg W v ks.length rows.length rows.flatten ∧ (∀ r ∈ rows, Fits ks r) ∧ rows.length ≤ 140737488351232 := by
  obtain ⟨a0, len0, cap0, rfl⟩ := okWide_slice hu hok
  obtain ⟨fuel, hfu⟩ := h
  rcases DataW.trod_slice hu hfu with ⟨hcs, hx⟩ | ⟨a, len, cap, elems, rest, n, _, hcs, hx, hbase, hl, hm, hel, hget, _, _⟩
  · simp [Value.cells] at hcs
    obtain ⟨rfl, rfl, rfl⟩ := hcs
    exact ⟨[], ⟨by simp, .inl ⟨rfl, rfl, rfl⟩⟩, by simp, by simp⟩
  · simp [Value.cells] at hcs
    obtain ⟨rfl, rfl, rfl⟩ := hcs
    simp only [Prod.mk.injEq] at hx
    have hok' : a.spot = none ∧ ∃ row cells, W.shape? a.block = some (row, cells) := by
      simp only [Value.okWide, hu, Cell.okWide, Cell.ok] at hok
      obtain ⟨_, _, _, h2, row, cells, h3, _⟩ := hok
      exact ⟨h2, row, cells, h3⟩
    obtain ⟨hsp, row, cells, hsh⟩ := hok'
    obtain ⟨C, t', fr, hC⟩ : ∃ C t' fr, W.heap[a.block]? = some (.cells C t' fr) := by
      unfold World.shape? at hsh
      split at hsh
      · rename_i c el fr hh; exact ⟨c, el, fr, hh⟩
      · cases hsh
    have hws : ∀ m ∈ DataW.weightsAll P e (elems.map (·.1)), m ≤ 140737488351232 := fun m hm => hw m (by
      rw [hx.1]
      simp only [DataW.weights, hu, List.mem_cons, List.mem_append]
      exact .inr (.inl hm))
    have hlen : len0 ≤ 140737488351232 := by
      have := hw ((elems.length + rest.length) * P.bytesOf e) (by
        rw [hx.1]
        simp only [DataW.weights, hu, List.mem_cons, List.length_map]
        exact .inl trivial)
      have h1 : (elems.length + rest.length) * 1 ≤ (elems.length + rest.length) * P.bytesOf e := Nat.mul_le_mul_left _ hB
      omega
    have each : ∀ i, i < len0 → ∃ r : List Value, Fits ks r ∧ ∀ (j : Nat) (x : Value), r[j]? = some x → C[a.off + i * ks.length + j]? = some x := by
      intro i hi
      have hg := hget i hi
      have hie : i < elems.length := by omega
      rw [List.getElem?_eq_getElem hie, hc] at hg
      cases hcl : W.cells? base' (a.add (i * ks.length)) ks.length with
      | none => rw [hcl] at hg; cases hg
      | some cs =>
        rw [hcl] at hg
        simp only [Option.bind_some] at hg
        have e2 : (a.add (i * ks.length)) = ⟨a.block, a.off + i * ks.length, none⟩ := by
          obtain ⟨ab, ao, asp⟩ := a
          simp only at hsp; subst hsp
          exact addr_add _ _ _
        rw [e2] at hcl
        obtain ⟨g1, g2⟩ := cells_get (a := ⟨a.block, a.off + i * ks.length, none⟩) rfl hC hcl
        obtain ⟨xs, m, _, hx1, hx2, hx3, hx4⟩ := DataW.trod_struct hs hg
        have hfit := fits_of (enc := enc) (W := W) (base := base') (spare := spare) (held := held) (n := m) cs fs.toList ks 0 xs hf (by simpa using hx3) (fun j f hj => hx4 j f (by simpa using hj)) (fun q hq => hws q (by
          refine weights_all (d := elems[i].1) (List.mem_map_of_mem (List.getElem_mem hie)) q ?_
          rw [hx1]
          simp only [DataW.weights, hs]
          exact hq))
        have : (cs.drop 0).take fs.toList.length = cs := by
          rw [List.drop_zero, List.take_of_length_le (by simp; omega)]
        rw [this] at hfit
        exact ⟨cs, hfit, g2⟩
    let pick : Nat → List Value := fun i => if hi : i < len0 then (each i hi).choose else []
    have hp : ∀ i, i < len0 → Fits ks (pick i) ∧ ∀ (j : Nat) (x : Value), (pick i)[j]? = some x → C[a.off + i * ks.length + j]? = some x := by
      intro i hi
      simp only [pick, dif_pos hi]
      exact (each i hi).choose_spec
    have hrows : ∀ r ∈ (List.range len0).map pick, Fits ks r := by
      intro r hr
      obtain ⟨i, hi, rfl⟩ := List.mem_map.1 hr
      exact (hp i (List.mem_range.1 hi)).1
    have hrl : ∀ r ∈ (List.range len0).map pick, r.length = ks.length := fun r hr => (hrows r hr).length
    refine ⟨(List.range len0).map pick, ⟨?_, .inr ⟨a, cap0, C, t', fr, by simp, hsp, by simpa using hl, flatten_len _ _ hrl, hC, ?_⟩⟩, hrows, by simpa using hlen⟩
    · intro x hx
      obtain ⟨r, hr, hxr⟩ := List.mem_flatten.1 hx
      exact (hrows r hr).closed x hxr
    · intro i x hx
      obtain ⟨k, j, r, h1, h2, h3, h4⟩ := flatten_get _ _ hrl i x hx
      have hk : k < len0 := by
        have := (List.getElem?_eq_some_iff.1 h1).1
        simpa using this
      rw [List.getElem?_map, List.getElem?_range hk] at h1
      injection h1 with h1
      subst h1
      have := (hp k hk).2 j x h2
      rw [show i + a.off = a.off + k * ks.length + j by omega]
      exact this
theorem rows_map {α : Type} {f : α → List Value} {ok : α → Prop} : ∀ {rows : List (List Value)}, (∀ r ∈ rows, ∃ x, r = f x ∧ ok x) → ∃ l : List α, rows = l.map f ∧ ∀ x ∈ l, ok x
  | [], _ => ⟨[], rfl, by simp⟩
  | r :: rows, h => by
    obtain ⟨x, h1, h2⟩ := h r (by simp)
    obtain ⟨l, h3, h4⟩ := rows_map (rows := rows) fun r hr => h r (List.mem_cons_of_mem _ hr)
    exact ⟨x :: l, by rw [h1, h3]; rfl, by
      intro y hy
      rcases List.mem_cons.1 hy with rfl | hy
      · exact h2
      · exact h4 y hy⟩
end Go.Ev
