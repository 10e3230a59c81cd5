/- What SlabParts says. No condition. -/
import Derived.Test.YtjkbkofgdikmcaaB4
noncomputable section
namespace Go.Ev
open Go.Proofs
set_option linter.unusedVariables false
set_option maxRecDepth 100000

theorem i64_nat {n : Int} (h1 : 0 ≤ n) (h2 : n < 9223372036854775808) : IntKind.i64.wrap n = ((n.toNat : Nat) : Int) := by rw [wrap_i64 (by omega) h2]; omega
theorem wadd {a b : Int} (h1 : 0 ≤ a + b) (h2 : a + b < 9223372036854775808) : IntKind.i64.wrap (a + b) = a + b := wrap_i64 (by omega) h2
theorem wsub {a b : Int} (h1 : -9223372036854775808 ≤ a - b) (h2 : a - b < 9223372036854775808) : IntKind.i64.wrap (a - b) = a - b := wrap_i64 h1 h2
theorem emod_nat (n m : Int) (h : 0 < m) : ∃ j : Nat, n % m = (j : Int) ∧ (j : Int) < m := by
  have h1 := Int.emod_nonneg n (show m ≠ 0 by omega)
  have h2 := Int.emod_lt_of_pos n h
  exact ⟨(n % m).toNat, by omega, by omega⟩
abbrev iv (n : Int) : Value := .int .i64 n
theorem ivc {L : En} {i : Nat} {a b : Int} (h : lk i L = some (.int .i64 a)) (e : a = b) : lk i L = some (.int .i64 b) := by rw [h, e]
theorem parts_walk {s : St} (wf : WF s) {n at_ to cut : Int} (hn : inR n) (hat : inR at_) (hto : inR to) (hcut : inR cut) {κa : Option Nat} {va : Value} {la : List UInt8} (ha : Sb s κa va la) (hla : la.length ≤ 140737488351232)
    {κb : Option Nat} {vb : Value} {lb : List UInt8} (hb : Sb s κb vb lb) (hlb : lb.length ≤ 140737488351232) :
    Cw Try.prog 3 [.int .i64 n, .int .i64 at_, .int .i64 to, .int .i64 cut, va, vb] s fun r _ => r = .bool true := by
  refine Cw.enterS Try.func3 rfl rfl ?_
  refine Sm.seqW ?_
  conv => whnf
  -- n
  refine Sm.seqW ?_
  conv => whnf
  refine (pick_spec s hn (by omega) (by omega)).mono ?_
  rintro r1 s1 ⟨rfl, rfl⟩
  obtain ⟨N0, hN0, hN1⟩ := emod_nat n 60 (by omega)
  conv => whnf
  have eN : IntKind.i64.wrap (30 + n % 60) = ((30 + N0 : Nat) : Int) := by rw [wadd (by omega) (by omega)]; omega
  refine Sm.weak [(0, iv ((30 + N0 : Nat) : Int)), (1, iv at_), (2, iv to), (3, iv cut), (4, va), (5, vb)] (.cons (ivc rfl eN) (.cons rfl (.cons rfl (.cons rfl (.cons rfl (.cons rfl (Sub.nil _))))))) ?_
  have hNr : 30 + N0 < 90 := by omega
  have hNl : 30 ≤ 30 + N0 := by omega
  generalize 30 + N0 = N at hNr hNl ⊢
  -- x
  refine Sm.seqW ?_
  conv => whnf
  refine (few_spec wf ha (by omega) 12).mono ?_
  rintro x s2 ⟨k2, ox⟩
  conv => whnf
  refine Sm.weak [(0, iv (N : Int)), (1, iv at_), (2, iv to), (3, iv cut), (5, vb), (13, x)] (.cons rfl (.cons rfl (.cons rfl (.cons rfl (.cons rfl (.cons rfl (Sub.nil _))))))) ?_
  -- y
  refine Sm.seqW ?_
  conv => whnf
  refine (few_spec k2.wf (hb.keep0 k2) (by omega) 12).mono ?_
  rintro y s3 ⟨k3, oy⟩
  conv => whnf
  refine Sm.weak [(0, iv (N : Int)), (1, iv at_), (2, iv to), (3, iv cut), (13, x), (14, y)] (.cons rfl (.cons rfl (.cons rfl (.cons rfl (.cons rfl (.cons rfl (Sub.nil _))))))) ?_
  have lx : (la.take 12).length ≤ 12 := by simp; omega
  have ly : (lb.take 12).length ≤ 12 := by simp; omega
  generalize la.take 12 = X at ox lx
  generalize lb.take 12 = Y at oy ly
  obtain ⟨κx, sx, hκx⟩ := (ox.keep0 k3).slb
  obtain ⟨κy, sy, hκy⟩ := oy.slb
  obtain ⟨ax, cx, rfl⟩ := sx.shape
  obtain ⟨ay, cy, rfl⟩ := sy.shape
  -- the slabs
  refine Sm.seqW ?_
  conv => whnf
  refine (new_spec k3.wf (N : Int)).mono ?_
  rintro p s4 ⟨k4, ks, kb, n1, n2, h4⟩
  conv => whnf
  refine Sm.seqW ?_
  conv => whnf
  refine (new_spec k4.wf (N : Int)).mono ?_
  rintro q s5 ⟨k5, js, jb, m1, m2, h5⟩
  have h4' := h4.keep0 k5
  obtain ⟨bp, rfl⟩ := h4.ptr
  obtain ⟨bq, rfl⟩ := h5.ptr
  have g4 := h4.lt k4.wf
  conv => whnf
  refine Sm.weak [(0, iv (N : Int)), (1, iv at_), (2, iv to), (3, iv cut), (13, .slice ax X.length cx), (14, .slice ay Y.length cy), (15, .pointer (some ⟨bp, 0, none⟩)), (16, .pointer (some ⟨bq, 0, none⟩))] (.cons rfl (.cons rfl (.cons rfl (.cons rfl (.cons rfl (.cons rfl (.cons rfl (.cons rfl (Sub.nil _))))))))) ?_
  refine Sm.seqW ?_
  conv => whnf
  refine (sknown_spec k5.wf).mono ?_
  rintro r6 s6 ⟨rfl, k6⟩
  conv => whnf
  repeat (first | (refine Br.yes rfl ?_; conv => whnf) | (refine Br.no rfl ?_; conv => whnf))
  refine Om.of (.bool false) rfl ?_
  conv => whnf
  repeat (first | (refine Br.yes rfl ?_; conv => whnf) | (refine Br.no rfl ?_; conv => whnf))
  refine Om.of (.bool false) rfl ?_
  conv => whnf
  repeat (first | (refine Br.yes rfl ?_; conv => whnf) | (refine Br.no rfl ?_; conv => whnf))
  refine Sm.weak [(0, iv (N : Int)), (1, iv at_), (2, iv to), (3, iv cut), (13, .slice ax X.length cx), (14, .slice ay Y.length cy), (15, .pointer (some ⟨bp, 0, none⟩)), (16, .pointer (some ⟨bq, 0, none⟩))] (.cons rfl (.cons rfl (.cons rfl (.cons rfl (.cons rfl (.cons rfl (.cons rfl (.cons rfl (Sub.nil _))))))))) ?_
  have hp := h4'.keep0 k6
  have hq := h5.keep0 k6
  have hx := ((sx.keep0 k4).keep0 k5).keep0 k6
  have hy := ((sy.keep0 k4).keep0 k5).keep0 k6
  have wf6 := k6.wf
  have hm : (max 1 (min (N : Int) 65536)).toNat = N := by omega
  rw [hm] at hp hq
  -- at
  refine Sm.seqW ?_
  conv => whnf
  have e1 : IntKind.i64.wrap (IntKind.i64.wrap (IntKind.i64.wrap ((N : Int) - (X.length : Int)) - (Y.length : Int)) + 1) = (N : Int) - X.length - Y.length + 1 := by
    rw [wsub (a := (N : Int)) (b := (X.length : Int)) (by omega) (by omega), wsub (a := (N : Int) - X.length) (by omega) (by omega), wadd (by omega) (by omega)]
  rw [e1]
  refine (pick_spec s6 hat (by omega) (by omega)).mono ?_
  rintro r7 s7 ⟨rfl, rfl⟩
  obtain ⟨AT, hA0, hA1⟩ := emod_nat at_ ((N : Int) - X.length - Y.length + 1) (by omega)
  conv => whnf
  refine Sm.weak [(0, iv (N : Int)), (1, iv (AT : Int)), (2, iv to), (3, iv cut), (13, .slice ax X.length cx), (14, .slice ay Y.length cy), (15, .pointer (some ⟨bp, 0, none⟩)), (16, .pointer (some ⟨bq, 0, none⟩))] (.cons rfl (.cons (ivc rfl hA0) (.cons rfl (.cons rfl (.cons rfl (.cons rfl (.cons rfl (.cons rfl (Sub.nil _))))))))) ?_
  -- to
  refine Sm.seqW ?_
  conv => whnf
  have e2 : IntKind.i64.wrap (IntKind.i64.wrap (IntKind.i64.wrap (IntKind.i64.wrap ((N : Int) - (AT : Int)) - (X.length : Int)) - (Y.length : Int)) + 1) = (N : Int) - AT - X.length - Y.length + 1 := by
    rw [wsub (a := (N : Int)) (b := (AT : Int)) (by omega) (by omega), wsub (a := (N : Int) - AT) (b := (X.length : Int)) (by omega) (by omega), wsub (a := (N : Int) - AT - X.length) (by omega) (by omega), wadd (by omega) (by omega)]
  rw [e2]
  refine (pick_spec s7 hto (by omega) (by omega)).mono ?_
  rintro r8 s8 ⟨rfl, rfl⟩
  obtain ⟨T0, hT0, hT1⟩ := emod_nat to ((N : Int) - AT - X.length - Y.length + 1) (by omega)
  conv => whnf
  have e3 : IntKind.i64.wrap (IntKind.i64.wrap ((AT : Int) + (X.length : Int)) + to % ((N : Int) - AT - X.length - Y.length + 1)) = ((AT + X.length + T0 : Nat) : Int) := by
    rw [hT0, wadd (a := (AT : Int)) (b := (X.length : Int)) (by omega) (by omega), wadd (by omega) (by omega)]; omega
  refine Sm.weak [(0, iv (N : Int)), (1, iv (AT : Int)), (2, iv ((AT + X.length + T0 : Nat) : Int)), (3, iv cut), (13, .slice ax X.length cx), (14, .slice ay Y.length cy), (15, .pointer (some ⟨bp, 0, none⟩)), (16, .pointer (some ⟨bq, 0, none⟩))] (.cons rfl (.cons rfl (.cons (ivc rfl e3) (.cons rfl (.cons rfl (.cons rfl (.cons rfl (.cons rfl (Sub.nil _))))))))) ?_
  have hTO : AT + X.length + T0 + Y.length ≤ N := by omega
  have hTA : AT + X.length ≤ AT + X.length + T0 := by omega
  generalize AT + X.length + T0 = TO at hTO hTA ⊢
  clear hA0 hA1 hT0 hT1 e1 e2 e3 T0
  have lz : (List.replicate N (0 : UInt8)).length = N := by simp
  -- the writes
  refine Sm.seqW ?_
  conv => whnf
  refine (write_spec wf6 hp (AT : Int) hx (fun k hk => by have := hκx k hk; have := k3.next; omega)).mono ?_
  rintro r9 s9 ⟨k9, rfl, h9⟩
  rw [SL.write_plain rfl rfl (by omega) (by simp; omega)] at h9 ⊢
  have hq9 := hq.keep k9 (by omega) (by omega)
  have hx9 := hx.keep k9 (fun k hk => by have := hκx k hk; have := k3.next; omega)
  have hy9 := hy.keep k9 (fun k hk => by have := hκy k hk; omega)
  conv => whnf
  repeat (first | (refine Br.yes rfl ?_; conv => whnf) | (refine Br.no rfl ?_; conv => whnf))
  refine (write_spec k9.wf h9 (TO : Int) hy9 (fun k hk => by have := hκy k hk; omega)).mono ?_
  rintro r10 s10 ⟨k10, rfl, h10⟩
  rw [SL.write_plain rfl rfl (by omega) (by simp only; rw [putB_length _ _ _ (by rw [lz]; omega)]; omega)] at h10 ⊢
  have hq10 := hq9.keep k10 (by omega) (by omega)
  have hx10 := hx9.keep k10 (fun k hk => by have := hκx k hk; have := k3.next; omega)
  have hy10 := hy9.keep k10 (fun k hk => by have := hκy k hk; omega)
  conv => whnf
  repeat (first | (refine Br.yes rfl ?_; conv => whnf) | (refine Br.no rfl ?_; conv => whnf))
  refine (write_spec k10.wf hq10 (TO : Int) hy10 (fun k hk => by have := hκy k hk; have := k4.next; omega)).mono ?_
  rintro r11 s11 ⟨k11, rfl, h11⟩
  rw [SL.write_plain rfl rfl (by omega) (by simp; omega)] at h11 ⊢
  have hp11 := h10.keep k11 (by omega) (by omega)
  have hx11 := hx10.keep k11 (fun k hk => by have := hκx k hk; have := k3.next; have := k4.next; omega)
  have hy11 := hy10.keep k11 (fun k hk => by have := hκy k hk; have := k4.next; omega)
  conv => whnf
  repeat (first | (refine Br.yes rfl ?_; conv => whnf) | (refine Br.no rfl ?_; conv => whnf))
  refine (write_spec k11.wf h11 (AT : Int) hx11 (fun k hk => by have := hκx k hk; have := k3.next; have := k4.next; omega)).mono ?_
  rintro r12 s12 ⟨k12, rfl, h12⟩
  rw [SL.write_plain rfl rfl (by omega) (by simp only; rw [putB_length _ _ _ (by rw [lz]; omega)]; omega)] at h12 ⊢
  have hp12 := hp11.keep k12 (by omega) (by omega)
  have hx12 := hx11.keep k12 (fun k hk => by have := hκx k hk; have := k3.next; have := k4.next; omega)
  have hy12 := hy11.keep k12 (fun k hk => by have := hκy k hk; have := k4.next; omega)
  conv => whnf
  repeat (first | (refine Br.yes rfl ?_; conv => whnf) | (refine Br.no rfl ?_; conv => whnf))
  have lb1 := putB_length (List.replicate N (0 : UInt8)) AT X (by omega)
  have lb2 := putB_length (List.replicate N (0 : UInt8)) TO Y (by omega)
  have hcomm := putB_comm (b := List.replicate N (0 : UInt8)) (x := X) (y := Y) (i := AT) (j := TO) (by omega) (by omega)
  have hback1 := putB_back (b := putB (List.replicate N (0 : UInt8)) TO Y) (l := X) (i := AT) (by omega)
  have hback2 := putB_back (b := putB (List.replicate N (0 : UInt8)) AT X) (l := Y) (i := TO) (by omega)
  have lbb := putB_length (putB (List.replicate N (0 : UInt8)) AT X) TO Y (by omega)
  obtain ⟨lp, wp, fp⟩ : ∃ a b, SlabAt s12 (.pointer (some ⟨bp, 0, none⟩)) ks kb ⟨putB (putB (List.replicate N 0) AT X) TO Y, a, 0, b, false, false⟩ := ⟨_, _, hp12⟩
  obtain ⟨lq, wq, fq⟩ : ∃ a b, SlabAt s12 (.pointer (some ⟨bq, 0, none⟩)) js jb ⟨putB (putB (List.replicate N 0) TO Y) AT X, a, 0, b, false, false⟩ := ⟨_, _, h12⟩
  rw [← hcomm] at fq hback1
  have lZ : (putB (putB (List.replicate N (0 : UInt8)) AT X) TO Y).length = N := by omega
  have wf12 := k12.wf
  generalize putB (putB (List.replicate N (0 : UInt8)) AT X) TO Y = Z at fp fq hback1 hback2 lZ
  clear hp hq hx hy h9 hq9 hx9 hy9 h10 hq10 hx10 hy10 h11 hp11 hx11 hy11 h12 hp12 h4 h5 h4' hcomm lbb lb1 lb2 sx sy ox oy
  refine Sm.weak [(0, iv (N : Int)), (1, iv (AT : Int)), (2, iv (TO : Int)), (3, iv cut), (13, .slice ax X.length cx), (14, .slice ay Y.length cy), (15, .pointer (some ⟨bp, 0, none⟩)), (16, .pointer (some ⟨bq, 0, none⟩))] (.cons rfl (.cons rfl (.cons rfl (.cons rfl (.cons rfl (.cons rfl (.cons rfl (.cons rfl (Sub.nil _))))))))) ?_
  refine Sm.seqW ?_
  conv => whnf
  have e4 : IntKind.i64.wrap ((N : Int) + 1) = (N : Int) + 1 := wadd (by omega) (by omega)
  rw [e4]
  refine (pick_spec s12 hcut (by omega) (by omega)).mono ?_
  rintro r13 s13 ⟨rfl, rfl⟩
  obtain ⟨K, hK0, hK1⟩ := emod_nat cut ((N : Int) + 1) (by omega)
  conv => whnf
  refine Sm.weak [(0, iv (N : Int)), (1, iv (AT : Int)), (2, iv (TO : Int)), (13, .slice ax X.length cx), (14, .slice ay Y.length cy), (15, .pointer (some ⟨bp, 0, none⟩)), (16, .pointer (some ⟨bq, 0, none⟩)), (17, iv (K : Int))] (.cons rfl (.cons rfl (.cons rfl (.cons rfl (.cons rfl (.cons rfl (.cons rfl (.cons (ivc rfl hK0) (Sub.nil _))))))))) ?_
  refine Sm.seqW ?_
  conv => whnf
  refine (read_spec wf12 fp 0 (K : Int)).mono ?_
  rintro r14 s14 ⟨k14, ⟨hr, _⟩ | ⟨l1, v1, hr, rfl, o1⟩⟩
  · rw [SL.read_plain rfl (by omega) (by omega) (by simp only; omega)] at hr; cases hr
  rw [SL.read_plain rfl (by omega) (by omega) (by simp only; omega)] at hr
  obtain rfl := Option.some.inj hr
  conv => whnf
  refine Sm.weak [(0, iv (N : Int)), (1, iv (AT : Int)), (2, iv (TO : Int)), (13, .slice ax X.length cx), (14, .slice ay Y.length cy), (15, .pointer (some ⟨bp, 0, none⟩)), (16, .pointer (some ⟨bq, 0, none⟩)), (17, iv (K : Int)), (18, v1), (19, .bool true)] (.cons rfl (.cons rfl (.cons rfl (.cons rfl (.cons rfl (.cons rfl (.cons rfl (.cons rfl (.cons rfl (.cons rfl (Sub.nil _))))))))))) ?_
  refine Sm.seqW ?_
  conv => whnf
  have e5 : IntKind.i64.wrap ((N : Int) - (K : Int)) = ((N - K : Nat) : Int) := by rw [wsub (by omega) (by omega)]; omega
  rw [e5]
  refine (read_spec k14.wf (fp.keep0 k14) (K : Int) ((N - K : Nat) : Int)).mono ?_
  rintro r15 s15 ⟨k15, ⟨hr2, _⟩ | ⟨l2, v2, hr2, rfl, o2⟩⟩
  · rw [SL.read_plain rfl (by omega) (by omega) (by simp only; omega)] at hr2; cases hr2
  rw [SL.read_plain rfl (by omega) (by omega) (by simp only; omega)] at hr2
  obtain rfl := Option.some.inj hr2
  conv => whnf
  refine Sm.weak [(0, iv (N : Int)), (1, iv (AT : Int)), (2, iv (TO : Int)), (13, .slice ax X.length cx), (14, .slice ay Y.length cy), (16, .pointer (some ⟨bq, 0, none⟩)), (18, v1), (19, .bool true), (20, v2), (21, .bool true)] (.cons rfl (.cons rfl (.cons rfl (.cons rfl (.cons rfl (.cons rfl (.cons rfl (.cons rfl (.cons rfl (.cons rfl (Sub.nil _))))))))))) ?_
  refine Sm.seqW ?_
  conv => whnf
  refine (read_spec k15.wf ((fq.keep0 k14).keep0 k15) 0 (N : Int)).mono ?_
  rintro r16 s16 ⟨k16, ⟨hr3, _⟩ | ⟨l3, v3, hr3, rfl, o3⟩⟩
  · rw [SL.read_plain rfl (by omega) (by omega) (by simp only; omega)] at hr3; cases hr3
  rw [SL.read_plain rfl (by omega) (by omega) (by simp only; omega)] at hr3
  obtain rfl := Option.some.inj hr3
  conv => whnf
  refine Sm.weak [(1, iv (AT : Int)), (2, iv (TO : Int)), (13, .slice ax X.length cx), (14, .slice ay Y.length cy), (18, v1), (19, .bool true), (20, v2), (21, .bool true), (22, v3), (23, .bool true)] (.cons rfl (.cons rfl (.cons rfl (.cons rfl (.cons rfl (.cons rfl (.cons rfl (.cons rfl (.cons rfl (.cons rfl (Sub.nil _))))))))))) ?_
  have o1' := (o1.keep0 k15).keep0 k16
  have o2' := o2.keep0 k16
  have hx' := ((hx12.keep0 k14).keep0 k15).keep0 k16
  have hy' := ((hy12.keep0 k14).keep0 k15).keep0 k16
  have wf16 := k16.wf
  have t3 : (Z.drop 0).take N = Z := by rw [List.drop_zero, List.take_of_length_le (by omega)]
  have q1 : ((Z.drop 0).take K ++ (Z.drop K).take (N - K) == (Z.drop 0).take N) = true := by
    rw [t3, List.drop_zero, List.take_of_length_le (l := Z.drop K) (by simp; omega), List.take_append_drop]
    simp
  refine Sm.ofW ?_
  conv => whnf
  refine ⟨[0, 1, 3, 7, 15, 31, 63, 127, 255, 511, 255, 1279, 4095, 255, 8447, 32767, 65535, 131071, 262143, 262143, 262143, 262143, 2359295, 7602175, 16777215, 33554431, 262143, 67371007, 268435455, 536870911, 1073741823, 2147483647, 2147483647, 2147483647, 2147483647, 19327352831, 62277025791, 137438953471, 274877906943, 2147483647, 551903297535, 2199023255551, 4398046511103, 8796093022207], by decide +kernel, by decide +kernel, ?_⟩
  conv => whnf
  repeat (first | (refine Br.yes rfl ?_; conv => whnf) | (refine Br.no rfl ?_; conv => whnf))
  refine Om.of _ (ob_str o1'.reset) ?_
  conv => whnf
  refine Dk.same wf16 ?_
  conv => whnf
  repeat (first | (refine Br.yes rfl ?_; conv => whnf) | (refine Br.no rfl ?_; conv => whnf))
  refine Om.of _ (ob_str o2'.reset) ?_
  conv => whnf
  refine Dk.same wf16 ?_
  conv => whnf
  repeat (first | (refine Br.yes rfl ?_; conv => whnf) | (refine Br.no rfl ?_; conv => whnf))
  refine Om.of _ (str_add _ _ (by rw [bs_mk, bs_mk]; simp; omega)) ?_
  conv => whnf
  repeat (first | (refine Br.yes rfl ?_; conv => whnf) | (refine Br.no rfl ?_; conv => whnf))
  refine Om.of _ (ob_str o3.reset) ?_
  conv => whnf
  refine Dk.same wf16 ?_
  conv => whnf
  repeat (first | (refine Br.yes rfl ?_; conv => whnf) | (refine Br.no rfl ?_; conv => whnf))
  refine Om.of (.bool true) (congrArg (fun b => some (Value.bool b)) q1) ?_
  conv => whnf
  repeat (first | (refine Br.yes rfl ?_; conv => whnf) | (refine Br.no rfl ?_; conv => whnf))
  obtain ⟨κ3, s3', hκ3⟩ := o3.slb
  have lZ3 : ((Z.drop 0).take N).length = N := by rw [t3]; exact lZ
  obtain ⟨w1, m1', z1⟩ := slice_mid s3'.reset .i64 (i := AT) (j := AT + X.length) (by omega) (by rw [show ((Z.drop ((0 : Int)).toNat).take ((N : Int)).toNat).length = N from lZ3]; omega)
  have e6 : IntKind.i64.wrap ((AT : Int) + (X.length : Int)) = ((AT + X.length : Nat) : Int) := by rw [wadd (by omega) (by omega)]; omega
  rw [← e6] at m1'
  refine Om.of w1 m1' ?_
  conv => whnf
  refine Dk.same wf16 ?_
  conv => whnf
  repeat (first | (refine Br.yes rfl ?_; conv => whnf) | (refine Br.no rfl ?_; conv => whnf))
  refine Om.of _ (string_sl Try.underlying22 Try.underlying9 Try.underlying5 z1) ?_
  conv => whnf
  refine Dk.same wf16 ?_
  conv => whnf
  repeat (first | (refine Br.yes rfl ?_; conv => whnf) | (refine Br.no rfl ?_; conv => whnf))
  refine Om.of _ (string_sl Try.underlying22 Try.underlying9 Try.underlying5 hx'.reset) ?_
  conv => whnf
  refine Dk.same wf16 ?_
  conv => whnf
  repeat (first | (refine Br.yes rfl ?_; conv => whnf) | (refine Br.no rfl ?_; conv => whnf))
  have q2 : ((((Z.drop 0).take N).drop AT).take (AT + X.length - AT) == X) = true := by
    rw [t3, Nat.add_sub_cancel_left, hback1]; simp
  refine Om.of (.bool true) (congrArg (fun b => some (Value.bool b)) q2) ?_
  conv => whnf
  repeat (first | (refine Br.yes rfl ?_; conv => whnf) | (refine Br.no rfl ?_; conv => whnf))
  obtain ⟨w2, m2', z2⟩ := slice_mid s3'.reset .i64 (i := TO) (j := TO + Y.length) (by omega) (by rw [show ((Z.drop ((0 : Int)).toNat).take ((N : Int)).toNat).length = N from lZ3]; omega)
  have e7 : IntKind.i64.wrap ((TO : Int) + (Y.length : Int)) = ((TO + Y.length : Nat) : Int) := by rw [wadd (by omega) (by omega)]; omega
  rw [← e7] at m2'
  refine Om.of w2 m2' ?_
  conv => whnf
  refine Dk.same wf16 ?_
  conv => whnf
  repeat (first | (refine Br.yes rfl ?_; conv => whnf) | (refine Br.no rfl ?_; conv => whnf))
  refine Om.of _ (string_sl Try.underlying22 Try.underlying9 Try.underlying5 z2) ?_
  conv => whnf
  refine Dk.same wf16 ?_
  conv => whnf
  repeat (first | (refine Br.yes rfl ?_; conv => whnf) | (refine Br.no rfl ?_; conv => whnf))
  refine Om.of _ (string_sl Try.underlying22 Try.underlying9 Try.underlying5 hy'.reset) ?_
  conv => whnf
  refine Dk.same wf16 ?_
  conv => whnf
  repeat (first | (refine Br.yes rfl ?_; conv => whnf) | (refine Br.no rfl ?_; conv => whnf))
  have q3 : ((((Z.drop 0).take N).drop TO).take (TO + Y.length - TO) == Y) = true := by
    rw [t3, Nat.add_sub_cancel_left, hback2]; simp
  refine Om.of (.bool true) (congrArg (fun b => some (Value.bool b)) q3) ?_
  conv => whnf
  repeat (first | (refine Br.yes rfl ?_; conv => whnf) | (refine Br.no rfl ?_; conv => whnf))
  exact ⟨rfl⟩
end Go.Ev
