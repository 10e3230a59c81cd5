/- From the steps to a law over any input, further: slices of structs of three numbers and of bytes. No condition. -/
import Derived.Test.YtjkbkofgdikmcaaF3
noncomputable section
namespace Go.Ev
open Go.RowKit Go.ChangeShapes Go.WideShapes
set_option linter.unusedVariables false

/-- The bytes of a row: where they lie. Those of no room may lie anywhere. -/
structure RowB (W : World) (sv : Value) (l : List UInt8) : Prop where
  ex : (sv = .slice none 0 0 ∧ l = []) ∨ (∃ a, sv = .slice (some a) 0 0 ∧ l = []) ∨
    ∃ a cap C t fr, sv = .slice (some a) l.length cap ∧ 0 < cap ∧ a.spot = none ∧ l.length ≤ cap ∧ W.heap[a.block]? = some (.cells C t fr) ∧ ∀ (i : Nat) (x : Value), (byteVals l)[i]? = some x → C[i + a.off]? = some x
theorem open_bytes {H : Type} {enc : TypeId × Value → H} {P : Program} {W : World} {base : Nat} {held : Bool} {fuel : Nat} {t e : TypeId} {cs : List Value} {x : DataW H × List MemPlace} (hu : P.underlying t = some (.slice e)) (he : P.underlying e = some (.int .u8)) (hc : P.cellsOf e = 1) (hB : 0 < P.bytesOf e)
    (h : DataW.trod enc P W base (fun _ => true) held fuel t cs = some x) (hw : ∀ m ∈ x.1.weights P t, m ≤ 140737488351232) : ∃ sv l, cs = [sv] ∧ RowB W sv l ∧ l.length ≤ 140737488351232 := by
  rcases open_ints hu he hc h with ⟨hcs, _⟩ | ⟨a, len, cap, zs, hcs, _, hl, hm, hz, hx, hcell, hwf⟩
  · exact ⟨_, [], hcs, ⟨.inl ⟨rfl, rfl⟩⟩, by simp⟩
  · simp only [if_true] at hz
    obtain ⟨l, hl1, hl2⟩ := u8_bytes (zs := zs.take len) fun n hn => hwf n (List.mem_of_mem_take hn)
    have hll : l.length = len := by rw [hl2]; simp; omega
    have hlen : len ≤ 140737488351232 := by
      have := hw ((lits (H := H) .u8 (zs.take len)).length * P.bytesOf e + (lits (H := H) .u8 (zs.drop len)).length * P.bytesOf e) (by
        rw [hx]
        simp only [DataW.weights, hu, ← Nat.add_mul]
        exact List.mem_cons_self)
      have h1 : (lits (H := H) .u8 (zs.take len)).length = len := by simp [lits]; omega
      rw [h1] at this
      have h2 : len * 1 ≤ len * P.bytesOf e := Nat.mul_le_mul_left _ hB
      omega
    by_cases h0 : cap = 0
    · have : len = 0 := by omega
      subst this
      have : l = [] := List.length_eq_zero_iff.1 hll
      subst this
      subst h0
      exact ⟨_, [], hcs, ⟨.inr (.inl ⟨a, rfl, rfl⟩)⟩, by simp⟩
    · have hc0 := hcell 0 (by omega)
      unfold World.cell? at hc0
      obtain ⟨ab, ao, asp⟩ := a
      have hsp : asp = none ∧ ∃ C t fr, W.heap[ab]? = some (.cells C t fr) := by
        cases asp with
        | none =>
          refine ⟨rfl, ?_⟩
          rw [addr_add] at hc0
          simp only at hc0
          split at hc0
          · rename_i C t fr hh
            exact ⟨C, t, fr, hh⟩
          · cases hc0
        | some q =>
          exfalso
          revert hc0
          split
          · rename_i C t fr hh
            have : ((⟨ab, ao, some q⟩ : Addr).add 0).spot.isSome = true := by
              simp [Addr.add]
            rw [if_pos this]
            intro h; cases h
          · intro h; cases h
      obtain ⟨rfl, C, t', fr, hC⟩ := hsp
      refine ⟨_, l, by rw [hcs, ← hll], ⟨.inr (.inr ⟨⟨ab, ao, none⟩, cap, C, t', fr, rfl, by omega, rfl, by omega, hC, ?_⟩)⟩, by omega⟩
      intro i x hx
      rw [← hl1, List.getElem?_map, List.getElem?_take] at hx
      split at hx
      · rename_i hi
        have hi2 : i < zs.length := by omega
        have := hcell i hi2
        rw [List.getElem?_eq_getElem hi2] at hx
        simp only [Option.map_some] at hx
        injection hx with hx
        subst hx
        have hg : zs.getD i 0 = zs[i] := by simp [List.getD, hi2]
        rw [hg] at this
        unfold World.cell? at this
        rw [addr_add] at this
        simp only [hC, Option.isSome_none, Bool.false_eq_true, if_false] at this
        rw [Nat.add_comm]; exact this
      · cases hx
/-- A row: three numbers, bytes. -/
structure RawB where
  a : Int
  b : Int
  c : Int
  v : Value
  l : List UInt8
def RawB.cells (x : RawB) : List Value := [.int .i64 x.a, .int .i64 x.b, .int .i64 x.c, x.v]
structure RawB.ok (W : World) (x : RawB) : Prop where
  a : -9223372036854775808 ≤ x.a ∧ x.a < 9223372036854775808
  b : -9223372036854775808 ≤ x.b ∧ x.b < 9223372036854775808
  c : -9223372036854775808 ≤ x.c ∧ x.c < 9223372036854775808
  row : RowB W x.v x.l
  len : x.l.length ≤ 140737488351232
def flatB (P : Program) (fs : List Field) : Bool := match fs with
  | [f0, f1, f2, f3] => Nat.beq f0.offset 0 && Nat.beq (P.cellsOf f0.type) 1 && (FK.int .i64).ofT P f0.type && (Nat.beq f1.offset 1 && Nat.beq (P.cellsOf f1.type) 1 && (FK.int .i64).ofT P f1.type) && (Nat.beq f2.offset 2 && Nat.beq (P.cellsOf f2.type) 1 && (FK.int .i64).ofT P f2.type) &&
      (Nat.beq f3.offset 3 && Nat.beq (P.cellsOf f3.type) 1 && (match P.underlying f3.type with
        | some (.slice e) => (FK.int .u8).ofT P e && Nat.beq (P.cellsOf e) 1 && Nat.blt 0 (P.bytesOf e)
        | _ => false))
  | _ => false
theorem ofT_int {P : Program} {t : TypeId} {k : IntKind} (h : (FK.int k).ofT P t = true) : P.underlying t = some (.int k) := by
  simp only [FK.ofT] at h
  split at h
  · rename_i k' hu
    have := of_decide_eq_true h; subst this
    exact hu
  · cases h
theorem rowB_of {H : Type} {enc : TypeId × Value → H} {P : Program} {W : World} {base : Nat} {held : Bool} {n : Nat} {cs : List Value} {fs : List Field} {xs : List (DataW H × List MemPlace)} (h : flatB P fs = true) (hl : cs.length = 4) (hx3 : xs.length = fs.length)
    (hx : ∀ (j : Nat) (f : Field), fs[j]? = some f → DataW.trod enc P W base (fun _ => true) held n f.type ((cs.drop f.offset).take (P.cellsOf f.type)) = xs[j]?)
    (hw : ∀ m ∈ DataW.weightsEach P (fs.map (·.type)) (xs.map (·.1)), m ≤ 140737488351232) : ∃ r : RawB, cs = r.cells ∧ r.ok W := by
  unfold flatB at h
  split at h
  rotate_left
  · cases h
  rename_i f0 f1 f2 f3
  simp only [Bool.and_eq_true] at h
  obtain ⟨⟨⟨⟨⟨o0, c0⟩, t0⟩, ⟨o1, c1⟩, t1⟩, ⟨o2, c2⟩, t2⟩, ⟨o3, c3⟩, t3⟩ := h
  replace o0 := Nat.eq_of_beq_eq_true o0
  replace o1 := Nat.eq_of_beq_eq_true o1
  replace o2 := Nat.eq_of_beq_eq_true o2
  replace o3 := Nat.eq_of_beq_eq_true o3
  replace c0 := Nat.eq_of_beq_eq_true c0
  replace c1 := Nat.eq_of_beq_eq_true c1
  replace c2 := Nat.eq_of_beq_eq_true c2
  replace c3 := Nat.eq_of_beq_eq_true c3
  split at t3
  rotate_left
  · cases t3
  rename_i e hu3
  simp only [Bool.and_eq_true] at t3
  obtain ⟨⟨te, ce⟩, be⟩ := t3
  match cs, hl with
  | [v0, v1, v2, v3], _ =>
  match xs, hx3 with
  | [x0, x1, x2, x3], _ =>
  have h0 := hx 0 f0 rfl
  have h1 := hx 1 f1 rfl
  have h2 := hx 2 f2 rfl
  have h3 := hx 3 f3 rfl
  simp only [o0, c0, o1, c1, o2, c2, o3, c3, List.getElem?_cons_zero, List.getElem?_cons_succ, List.drop_zero, List.drop_succ_cons, List.take_succ_cons, List.take_zero] at h0 h1 h2 h3
  obtain ⟨m0, g0, _, k0⟩ := DataW.trod_int (ofT_int t0) h0
  obtain ⟨m1, g1, _, k1⟩ := DataW.trod_int (ofT_int t1) h1
  obtain ⟨m2, g2, _, k2⟩ := DataW.trod_int (ofT_int t2) h2
  obtain ⟨sv, l, g3, k3, k4⟩ := open_bytes hu3 (ofT_int te) (Nat.eq_of_beq_eq_true ce) (by simpa [Nat.blt_eq] using be) h3 (fun m hm => hw m (by
    simp only [List.map_cons, List.map_nil, DataW.weightsEach, List.mem_append]
    exact .inr (.inr (.inr (.inl hm)))))
  injection g0 with g0
  injection g1 with g1
  injection g2 with g2
  injection g3 with g3
  subst g0 g1 g2 g3
  exact ⟨⟨m0, m1, m2, v3, l⟩, rfl, i64_wf k0, i64_wf k1, i64_wf k2, k3, k4⟩
/-- A slice of such structs, opened. -/
structure RowsB (W : World) (v : Value) (rows : List RawB) : Prop where
  ok : ∀ r ∈ rows, r.ok W
  len : rows.length ≤ 140737488351232
  ex : (v = .slice none 0 0 ∧ rows = []) ∨ ∃ a cap C t fr, v = .slice (some a) rows.length cap ∧ a.spot = none ∧ rows.length ≤ cap ∧ W.heap[a.block]? = some (.cells C t fr) ∧ ∀ (k j : Nat) (r : RawB) (x : Value), rows[k]? = some r → r.cells[j]? = some x → C[a.off + k * 4 + j]? = some x
theorem open_rowsB {H : Type} {enc : TypeId × Value → H} {P : Program} {W : World} {base base' : Nat} {held : Bool} {t e : TypeId} {fs : Array Field} {v : Value} {d : DataW H} {ps : List MemPlace} (hu : P.underlying t = some (.slice e)) (hs : P.underlying e = some (.struct fs))
    (hf : flatB P fs.toList = true) (hc : P.cellsOf e = 4) (hB : 0 < P.bytesOf e) (hok : Value.okWide P W .any base t v) (h : DataW.Trod enc P W base' (fun _ => true) held t v d ps) (hw : ∀ m ∈ d.weights P t, m ≤ 140737488351232) :
    ∃ rows : List RawB, RowsB W v rows := by
  obtain ⟨a0, len0, cap0, rfl⟩ := okWide_slice hu hok
  obtain ⟨fuel, hfu⟩ := h
  rcases DataW.trod_slice hu hfu with ⟨hcs, hx⟩ | ⟨a, len, cap, elems, rest, n, _, hcs, hx, hbase, hl, hm, hel, hget, _, _⟩
  · simp [Value.cells] at hcs
    obtain ⟨rfl, rfl, rfl⟩ := hcs
    exact ⟨[], by simp, by simp, .inl ⟨rfl, rfl⟩⟩
  · simp [Value.cells] at hcs
    obtain ⟨rfl, rfl, rfl⟩ := hcs
    simp only [Prod.mk.injEq] at hx
    have hok' : a.spot = none ∧ ∃ row cells, W.shape? a.block = some (row, cells) := by
      simp only [Value.okWide, hu, Cell.okWide, Cell.ok] at hok
      obtain ⟨_, _, _, h2, row, cells, h3, _⟩ := hok
      exact ⟨h2, row, cells, h3⟩
    obtain ⟨hsp, row, cells, hsh⟩ := hok'
    obtain ⟨C, t', fr, hC⟩ : ∃ C t' fr, W.heap[a.block]? = some (.cells C t' fr) := by
      unfold World.shape? at hsh
      split at hsh
      · rename_i c el fr hh; exact ⟨c, el, fr, hh⟩
      · cases hsh
    have hws : ∀ m ∈ DataW.weightsAll P e (elems.map (·.1)), m ≤ 140737488351232 := fun m hm => hw m (by
      rw [hx.1]
      simp only [DataW.weights, hu, List.mem_cons, List.mem_append]
      exact .inr (.inl hm))
    have hlen : len0 ≤ 140737488351232 := by
      have := hw ((elems.length + rest.length) * P.bytesOf e) (by
        rw [hx.1]
        simp only [DataW.weights, hu, List.mem_cons, List.length_map]
        exact .inl trivial)
      have h1 : (elems.length + rest.length) * 1 ≤ (elems.length + rest.length) * P.bytesOf e := Nat.mul_le_mul_left _ hB
      omega
    have each : ∀ i, i < len0 → ∃ r : RawB, r.ok W ∧ ∀ (j : Nat) (x : Value), r.cells[j]? = some x → C[a.off + i * 4 + j]? = some x := by
      intro i hi
      have hg := hget i hi
      have hie : i < elems.length := by omega
      rw [List.getElem?_eq_getElem hie, hc] at hg
      cases hcl : W.cells? base' (a.add (i * 4)) 4 with
      | none => rw [hcl] at hg; cases hg
      | some cs =>
        rw [hcl] at hg
        simp only [Option.bind_some] at hg
        have e2 : (a.add (i * 4)) = ⟨a.block, a.off + i * 4, none⟩ := by
          obtain ⟨ab, ao, asp⟩ := a
          simp only at hsp; subst hsp
          exact addr_add _ _ _
        rw [e2] at hcl
        obtain ⟨g1, g2⟩ := cells_get (a := ⟨a.block, a.off + i * 4, none⟩) rfl hC hcl
        obtain ⟨xs, m, _, hx1, hx2, hx3, hx4⟩ := DataW.trod_struct hs hg
        obtain ⟨r, hr1, hr2⟩ := rowB_of (enc := enc) (W := W) (base := base') (held := held) (n := m) (cs := cs) (xs := xs) hf g1 (by simpa using hx3) (fun j f hj => hx4 j f (by simpa using hj)) (fun q hq => hws q (by
          refine weights_all (d := elems[i].1) (List.mem_map_of_mem (List.getElem_mem hie)) q ?_
          rw [hx1]
          simp only [DataW.weights, hs]
          exact hq))
        subst hr1
        exact ⟨r, hr2, g2⟩
    let pick : Nat → RawB := fun i => if hi : i < len0 then (each i hi).choose else ⟨0, 0, 0, .slice none 0 0, []⟩
    have hp : ∀ i, i < len0 → (pick i).ok W ∧ ∀ (j : Nat) (x : Value), (pick i).cells[j]? = some x → C[a.off + i * 4 + j]? = some x := by
      intro i hi
      simp only [pick, dif_pos hi]
      exact (each i hi).choose_spec
    refine ⟨(List.range len0).map pick, ?_, by simpa using hlen, .inr ⟨a, cap0, C, t', fr, by simp, hsp, by simpa using hl, hC, ?_⟩⟩
    · intro r hr
      obtain ⟨i, hi, rfl⟩ := List.mem_map.1 hr
      exact (hp i (List.mem_range.1 hi)).1
    · intro k j r x h1 h2
      have hk : k < len0 := by
        have := (List.getElem?_eq_some_iff.1 h1).1
        simpa using this
      rw [List.getElem?_map, List.getElem?_range hk] at h1
      injection h1 with h1
      subst h1
      exact (hp k hk).2 j x h2
/-- The rows as the run sees them. -/
def canRows : Nat → List RawB → List RawB
  | _, [] => []
  | k, r :: l => { r with v := canV (k + 1) r.v } :: canRows (k + 1) l
theorem canRows_get : ∀ (l : List RawB) (k i : Nat), (canRows k l)[i]? = (l[i]?).map fun r => { r with v := canV (k + i + 1) r.v }
  | [], _, _ => by simp [canRows]
  | r :: l, k, 0 => by simp [canRows]
  | r :: l, k, i + 1 => by
    simp only [canRows, List.getElem?_cons_succ]
    rw [canRows_get l (k + 1) i]
    congr 1
    funext r
    rw [show k + 1 + i + 1 = k + (i + 1) + 1 by omega]
theorem canRows_len : ∀ (l : List RawB) (k : Nat), (canRows k l).length = l.length
  | [], _ => rfl
  | r :: l, k => by simp [canRows, canRows_len l]
def rawBCells (l : List RawB) : List Value := (l.map RawB.cells).flatten
theorem rawBCells_len (l : List RawB) : (rawBCells l).length = l.length * 4 := flatten_len 4 _ (fun r hr => by obtain ⟨x, _, rfl⟩ := List.mem_map.1 hr; rfl) |>.trans (by simp)
def bsB (rows : List RawB) : List (List Value × Nat) := (rawBCells (canRows 0 rows), 4) :: rows.map fun r => (byteVals r.l, 1)
def biR (b0 : Nat) : Value → Option BI
  | .slice (some _) _ 0 => some ⟨b0, 0, 1, 0⟩
  | .slice (some a) _ c => some ⟨a.block, a.off, 1, a.off + c * 1⟩
  | _ => none
def blk0 : Value → Nat
  | .slice (some a) _ _ => a.block
  | _ => 0
def betaB (v : Value) (rows : List RawB) : B
  | 0 => biOf 4 v
  | k + 1 => (rows[k]?).bind fun r => biR (blk0 v) r.v
theorem rowB_vr {W : World} {v : Value} {rows : List RawB} {k : Nat} {r : RawB} (hk : rows[k]? = some r) (h : RowB W r.v r.l) : VR (betaB v rows) (canV (k + 1) r.v) r.v := by
  have hb : betaB v rows (k + 1) = biR (blk0 v) r.v := by simp [betaB, hk]
  rcases h.ex with ⟨h1, _⟩ | ⟨a, h1, _⟩ | ⟨a, cap, C, t, fr, h1, h2, h3, h4, _⟩
  · rw [h1]; exact .nils
  · rw [h1] at hb ⊢
    exact .slice (Nat.le_refl _) ⟨_, hb, rfl, Nat.le_refl _, .inl rfl⟩
  · rw [h1] at hb ⊢
    obtain ⟨cap, rfl⟩ : ∃ c, cap = c + 1 := ⟨cap - 1, by omega⟩
    exact .slice (Nat.le_refl _) (SR.of ⟨_, hb, rfl, h3, rfl, .inr (by simp), h4, by simp⟩)
theorem betaB_ok {W : World} {v : Value} {rows : List RawB} (h : RowsB W v rows) : ∀ b bi, betaB v rows b = some bi → ∃ cs e C t fr, (bsB rows)[b]? = some (cs, e) ∧ bi.esz = e ∧ W.heap[bi.blk]? = some (.cells C t fr) ∧
    ∀ (i : Nat) (x : Value), cs[i]? = some x → ∃ x', C[i + bi.sh]? = some x' ∧ VR (betaB v rows) x x' := by
  intro b bi hb
  cases b with
  | zero =>
    rcases h.ex with ⟨rfl, _⟩ | ⟨a, cap, C, t, fr, rfl, h1, h2, h3, h4⟩
    · cases hb
    · simp only [betaB, biOf] at hb
      injection hb with hb
      subst hb
      refine ⟨_, 4, C, t, fr, rfl, rfl, h3, fun i x hx => ?_⟩
      obtain ⟨k, j, c, g1, g2, g3, g4⟩ := flatten_get 4 _ (fun r hr => by obtain ⟨x, _, rfl⟩ := List.mem_map.1 hr; rfl) i x hx
      rw [List.getElem?_map, canRows_get, Nat.zero_add] at g1
      cases hr : rows[k]? with
      | none => rw [hr] at g1; cases g1
      | some r =>
        rw [hr] at g1
        simp only [Option.map_some] at g1
        injection g1 with g1
        subst g1
        have hcell : ∀ x', r.cells[j]? = some x' → C[i + a.off]? = some x' := fun x' hx' => by
          rw [show i + a.off = a.off + k * 4 + j by omega]; exact h4 k j r x' hr hx'
        have hok := h.ok r (List.mem_of_getElem? hr)
        match j, g4 with
        | 0, _ => simp [RawB.cells] at g2; subst g2; exact ⟨_, hcell _ rfl, .int _ _⟩
        | 1, _ => simp [RawB.cells] at g2; subst g2; exact ⟨_, hcell _ rfl, .int _ _⟩
        | 2, _ => simp [RawB.cells] at g2; subst g2; exact ⟨_, hcell _ rfl, .int _ _⟩
        | 3, _ => simp [RawB.cells] at g2; subst g2; exact ⟨_, hcell _ rfl, rowB_vr hr hok.row⟩
  | succ k =>
    cases hr : rows[k]? with
    | none => simp [betaB, hr] at hb
    | some r =>
      have hb : biR (blk0 v) r.v = some bi := by simpa [betaB, hr] using hb
      have hok := h.ok r (List.mem_of_getElem? hr)
      have hbs : (bsB rows)[k + 1]? = some (byteVals r.l, 1) := by simp [bsB, hr]
      rcases hok.row.ex with ⟨h1, _⟩ | ⟨a, h1, hl⟩ | ⟨a, cap, C, t, fr, h1, h2, h3, h4, h5, h6⟩
      · rw [h1] at hb; cases hb
      · rw [h1] at hb
        simp only [biR] at hb
        injection hb with hb
        subst hb
        rcases h.ex with ⟨_, rfl⟩ | ⟨a0, cap, C, t, fr, rfl, g1, g2, g3, g4⟩
        · simp at hr
        · refine ⟨_, 1, C, t, fr, hbs, rfl, g3, fun i x hx => ?_⟩
          rw [hl] at hx
          simp [byteVals] at hx
      · rw [h1] at hb
        obtain ⟨cap, rfl⟩ : ∃ c, cap = c + 1 := ⟨cap - 1, by omega⟩
        simp only [biR] at hb
        injection hb with hb
        subst hb
        refine ⟨_, 1, C, t, fr, hbs, rfl, h5, fun i x hx => ⟨x, h6 i x hx, ?_⟩⟩
        have : ∃ n, x = .int .u8 n := by
          have := List.mem_of_getElem? hx
          simp only [byteVals, List.mem_map] at this
          obtain ⟨c, _, rfl⟩ := this
          exact ⟨_, rfl⟩
        obtain ⟨n, rfl⟩ := this
        exact .int _ _
theorem RowsB.vr {W : World} {v : Value} {rows : List RawB} (h : RowsB W v rows) : VR (betaB v rows) (canV 0 v) v := by
  rcases h.ex with ⟨rfl, _⟩ | ⟨a, cap, C, t, fr, rfl, h1, h2, _⟩
  · exact .nils
  · exact .slice (Nat.le_refl _) (SR.of ⟨_, rfl, rfl, h1, rfl, .inr (by simp), h2, Nat.le_refl _⟩)
theorem RowsB.sl {W : World} {v : Value} {rows : List RawB} (h : RowsB W v rows) : Sl (initC (bsB rows)) none (canV 0 v) 4 (canRows 0 rows).length (rawBCells (canRows 0 rows)) := by
  rcases h.ex with ⟨rfl, rfl⟩ | ⟨a, cap, C, t, fr, rfl, h1, h2, _⟩
  · exact Sl.nil _ _
  · have hl := rawBCells_len (canRows 0 rows)
    rw [canRows_len] at hl ⊢
    exact ⟨.inr ⟨0, 0, rows.length, _, rfl, Nat.le_refl _, hl, sl_all hl, .inr ⟨rfl, initC_ro (bs := bsB rows) rfl⟩⟩⟩
theorem RowsB.each {W : World} {v : Value} {rows : List RawB} (h : RowsB W v rows) : ∀ x ∈ canRows 0 rows, Sb (initC (bsB rows)) none x.v x.l ∧ (-9223372036854775808 ≤ x.a ∧ x.a < 9223372036854775808) ∧ (-9223372036854775808 ≤ x.b ∧ x.b < 9223372036854775808) ∧ (-9223372036854775808 ≤ x.c ∧ x.c < 9223372036854775808) ∧ x.l.length ≤ 140737488351232 := by
  intro x hx
  obtain ⟨i, hi⟩ := List.mem_iff_getElem?.1 hx
  rw [canRows_get, Nat.zero_add] at hi
  cases hr : rows[i]? with
  | none => rw [hr] at hi; cases hi
  | some r =>
    rw [hr] at hi
    simp only [Option.map_some] at hi
    injection hi with hi
    subst hi
    have hok := h.ok r (List.mem_of_getElem? hr)
    refine ⟨?_, hok.a, hok.b, hok.c, hok.len⟩
    have hbs : (bsB rows)[i + 1]? = some (byteVals r.l, 1) := by simp [bsB, hr]
    show Sb (initC (bsB rows)) none (canV (i + 1) r.v) r.l
    rcases hok.row.ex with ⟨h1, h2⟩ | ⟨a, h1, h2⟩ | ⟨a, cap, C, t, fr, h1, h2, h3, h4, h5, h6⟩
    · rw [h1, h2]; exact Sl.nil _ _
    · rw [h2] at hbs ⊢
      rw [h1]
      exact ⟨.inr ⟨i + 1, 0, 0, [], rfl, Nat.le_refl _, rfl, rfl, .inr ⟨rfl, initC_ro hbs⟩⟩⟩
    · rw [h1]
      have hl : (byteVals r.l).length = r.l.length * 1 := by simp [byteVals]
      exact ⟨.inr ⟨i + 1, 0, r.l.length, _, rfl, Nat.le_refl _, hl, sl_all hl, .inr ⟨rfl, initC_ro hbs⟩⟩⟩
end Go.Ev
