/- Chapter 18's example and the law HeadSpread over the typed texts. -/
-- SEAT b
import Derived.Test.YthiccnmplgdheaaSHead4
set_option linter.unusedVariables false
set_option linter.unusedSimpArgs false
namespace Go.Proofs.Ythiccnmplgdheaa.T
open Go Go.Abs Go.Proofs
theorem capOk_self (sz n : Nat) (h : n < B63) : CapOK sz n n := by unfold CapOK; rw [capK_exact h]; exact Nat.le_refl _
theorem Box.rdS {h : H} {b n : Nat} {xs : List Sl} (B : Box h b (xs.map encSl)) (w : WF h) (hn : xs.length = n) (hb : n < B63) : RdS h ⟨some ⟨b, 0, some 0⟩, n, n⟩ xs := by
  subst hn; exact B.rd w (by simp) (capOk_self _ _ hb)
theorem Box.rdB {h : H} {b n : Nat} {xs : List UInt8} (B : Box h b (vB xs)) (w : WF h) (hn : xs.length = n) (hb : n < B63) : RdB h ⟨some ⟨b, 0, some 0⟩, n, n⟩ xs := by
  subst hn; exact B.rd w (by simp [vB]) (capOk_self _ _ hb)
def X0 : Hd := (3, 9, 2, 0, 81)
theorem known18_f {h : H} (w : WF h) : PO (law18_known h) (fun (a, h1) => a = true ∧ EX h h1) := by
  unfold law18_known P.law18_known
  refine PO.call (Of_f w 3 9 81) fun a h0 ⟨e, x0⟩ => ?_
  have e' : a = X0 := by rw [show a = ofV 3 9 81 from e]; decide
  subst e'
  refine PO.newB x0.wf fun h1 x1 B1 z1 w1 => PO.stZ B1 w1 rfl rfl fun h2 B2 u2 z2 w2 => ?_
  have B2' : Box h2 h0.size (hdL X0) := B2
  have xx2 : EX h h2 := u2.ex0 (x0.trans x1) (fun A hA e => by have := x0.size; omega)
  have hn2 := w2.nro
  refine PO.letGrow w2 fun h3 x3 z3 w3 n3 => .ldZ5 (Box.kx x3 B2') ?_
  refine PO.addNew (vs := vB (List.replicate 80 0)) w3 (by decide) (n3 1 (by omega)) (by omega) (by rw [x3.nro]; omega) fun h4 N4 B4 => ?_
  have z4 := N4.size
  refine PO.addNew (vs := [(⟨some ⟨h2.size + 1, 0, some 0⟩, 80, 80⟩ : Sl)].map encSl) N4.wf (by decide) (N4.nn (by omega) (by omega) (n3 2 (by omega))) (by omega) (by rw [N4.up.nro, x3.nro]; omega) fun h5 N5 B5 => .addNil ?_
  have B4' := NW.kb N5 B4
  have rp := Box.rdB (n := 80) B4' N5.wf (by simp) (by unfold B63; omega)
  refine PO.call (Lay_f N5.wf X0 (Box.rdS (n := 1) B5 N5.wf rfl (by unfold B63; omega)) (ls := [List.replicate 80 0]) ⟨⟨rp, by simp⟩, trivial⟩ (by simp) (by simp [cat])) fun s6 h6 ⟨r6, x6⟩ => ?_
  have B4'' := Box.kx x6 B4'
  have B5' := Box.kx x6 B5
  refine .addOld B4''.ne (.addOld B5'.ne (.addNil (PO.letTick x6.wf fun h8 x8 z8 w8 => ?_)))
  have hc : cat [List.replicate 80 (0 : UInt8)] = List.replicate 80 0 := by simp [cat]
  have r6' : RdB h6 s6 (layV X0 (List.replicate 80 0)) := by rw [← hc]; exact r6
  have hX : HR X0 ∧ ((List.replicate 80 (0 : UInt8)).length : Int) = hto X0 - hfrom X0 := by decide
  have hlen : (layV X0 (List.replicate 80 0)).length = 86 := by decide +kernel
  refine PO.call (Read_f w8 (r6'.ex x8) (by omega)) fun a h9 ⟨e1, e2, r9, x9⟩ => ?_
  rw [readV_layV hX] at e1 e2 r9
  obtain ⟨a1, a2, a3⟩ := a
  simp only at e1 e2 r9 x9
  subst e1 e2
  have xx5 : EX h h5 := N5.ex0 (N4.ex0 (xx2.trans x3) (by have := xx2.size; omega)) (by have := xx2.size; omega)
  have C9 : Box h9 h0.size (hdL X0) := Box.kx x9 (Box.kx x8 (Box.kx x6 (NW.kb N5 (NW.kb N4 (Box.kx x3 B2')))))
  refine PO.newB x9.wf fun h10 x10 B10 z10 w10 => PO.stZ B10 w10 rfl rfl fun h11 B11 u11 z11 w11 => ?_
  have B11' : Box h11 h9.size (hdL X0) := B11
  have C11 : Box h11 h0.size (hdL X0) := Box.ku u11 (by have := C9.blt; omega) (Box.kx x10 C9)
  have xx11 : EX h h11 := u11.ex0 (((xx5.trans x6).trans x8).trans (x9.trans x10)) (fun A hA e => by have := ((xx5.trans x6).trans (x8.trans x9)).size; omega)
  refine .ldI C11 rfl (.condE (fun _ => .ldI C11 rfl (.condE (fun _ => .condE (fun _ => .condE (fun _ => .ldZ5 B11' (.ldZ5 C11 (.letO (.chk' ?_ ?_)))) (fun h => absurd rfl h)) (fun h => absurd ?_ h)) (fun h => absurd rfl h))) (fun h => absurd rfl h))
  · rfl
  · refine .ret ⟨?_, xx11⟩
    rw [RdB.len r9]; rfl
  · rw [RdB.len r6', hlen]; rfl
theorem PO.law {m : Option (Bool × H)} (p : PO m (fun (a, _) => a = true)) : ∃ h', m = some (true, h') := by
  obtain ⟨⟨a, h'⟩, e, ha⟩ := p
  have ha' : a = true := ha
  subst ha'
  exact ⟨h', e⟩
theorem slB_hi {h : H} {s : Sl} {l : List UInt8} (hr : RdB h s l) {hi : Int} (h1 : 0 ≤ hi) (h2 : hi ≤ l.length) : ∃ s', slT 1 h s none (some hi) none = some s' ∧ RdB h s' (l.take hi.toNat) := by
  obtain ⟨s', e, r, _, _⟩ := sl_hi (hi := hi) (by omega) (by unfold B63; omega) hr h1 (by rw [RdB.len hr]; exact h2)
  refine ⟨s', e, ?_⟩
  unfold vB at r; unfold RdB vB
  rw [Nat.mul_one] at r
  rw [List.map_take]; exact r
theorem slB_lo {h : H} {s : Sl} {l : List UInt8} (hr : RdB h s l) {lo : Int} (h1 : 0 ≤ lo) (h2 : lo ≤ l.length) : ∃ s', slT 1 h s (some lo) none none = some s' ∧ RdB h s' (l.drop lo.toNat) := by
  obtain ⟨s', e, r, _, _⟩ := sl_lo (lo := lo) (by omega) (by unfold B63; omega) hr h1 (by rw [RdB.len hr]; exact h2)
  refine ⟨s', e, ?_⟩
  unfold vB at r; unfold RdB vB
  rw [Nat.mul_one] at r
  rw [List.map_drop]; exact r
theorem ofV_ok {id dl sz : Int} (h : 0 ≤ id ∧ id < 40 ∧ 0 ≤ dl ∧ dl ≤ 4611686018427387903 ∧ 1 ≤ sz ∧ sz ≤ 600) : ofV id dl sz = (id, dl, hcnt sz, 0, sz) ∧ HR (id, dl, hcnt sz, 0, sz) := by
  have : HR (id, dl, hcnt sz, 0, sz) := ⟨h.1, h.2.1, h.2.2.1, h.2.2.2.1, h.2.2.2.2.1, h.2.2.2.2.2, rfl, Int.le_refl 0, by show 0 < hcnt sz; unfold hcnt; omega⟩
  exact ⟨by unfold ofV; rw [if_pos this], this⟩
abbrev RNG (n : Int) : Prop := -9223372036854775808 ≤ n ∧ n ≤ 9223372036854775807
theorem emod_b (a : Int) {m : Int} (h : 0 < m) : 0 ≤ a % m ∧ a % m < m := ⟨Int.emod_nonneg a (by omega), Int.emod_lt_of_pos a h⟩
theorem layV_no {x : Hd} {l : List UInt8} (h : (l.length : Int) ≠ hto x - hfrom x) : layV x l = [] := by unfold layV; rw [if_neg (fun e => h e.2)]
theorem HeadSpread (id size index cut more : Int) (payload : Sl) (h : H) (w : WF h) (g1 : RNG id) (g2 : RNG size) (g3 : RNG index) (g4 : RNG cut) (g5 : RNG more) (l : List UInt8) (hr : RdB h payload l) (hl : l.length ≤ 140737488351232) :
    ∃ h', law18_HeadSpread id size index cut more payload h = some (true, h') := by
  refine PO.law ?_
  unfold law18_HeadSpread P.law18_HeadSpread
  have q0 := emod_b size (show (0 : Int) < 600 by omega)
  have q1 := emod_b id (show (0 : Int) < 40 by omega)
  refine .callE (pick_f _ _ (by omega) (by omega) _) (.callE (pick_f _ _ (by omega) (by omega) _) ?_)
  rw [w64 (n := 1 + size % 600) (by omega) (by omega)]
  obtain ⟨N, hN⟩ : ∃ N : Nat, 1 + size % 600 = (N : Int) := ⟨(1 + size % 600).toNat, by omega⟩
  rw [hN]
  generalize id % 40 = i at *
  obtain ⟨hv, hR0⟩ := ofV_ok (id := i) (dl := 77) (sz := N) (by omega)
  refine PO.call (Of_f w _ _ _) fun a h2 ⟨e, x2⟩ => ?_
  rw [hv] at e
  subst e
  have hc : 1 ≤ hcnt N ∧ hcnt N ≤ 8 := by unfold hcnt; omega
  generalize hcE : hcnt N = C at *
  refine PO.newB x2.wf fun h3 x3 B3 z3 w3 => PO.stZ B3 w3 rfl rfl fun h4 B4 u4 z4 w4 => ?_
  have B4' : Box h4 h2.size (hdL (i, 77, C, 0, N)) := B4
  refine .ldI B4' rfl ?_
  rw [show (if C > 1 then C else 1) = C by split <;> omega]
  have q2 := emod_b index (show (0 : Int) < C by omega)
  refine .callE (pick_f _ _ (by omega) (by omega) _) (PO.st1 B4' w4 (by simp) rfl fun h6 B6 u6 z6 w6 => ?_)
  generalize index % C = k at *
  have B6' : Box h6 h2.size (hdL (i, 77, C, k, N)) := B6
  have hR : HR (i, 77, C, k, N) := by unfold HR at hR0 ⊢; simp only at hR0 ⊢; omega
  have y6 : EX h2 h6 := u6.ex0 (u4.ex0 x3 (fun A hA e => by omega)) (fun A hA e => by omega)
  clear B3 B4 B4' B6 u4 u6
  generalize hXE : ((i, 77, C, k, (N : Int)) : Hd) = X at *
  have hXs : X.2.2.2.2 = N := by rw [← hXE]
  have hX1 : X.1 = i := by rw [← hXE]
  have hX4 : X.2.2.2.1 = k := by rw [← hXE]
  have hXb := hR.b
  refine .ldZ5 B6' (PO.call (Text_f w6 (RdB.ex y6 (RdB.ex x2 hr)) (by omega) N (by omega)) fun s14 h7 ⟨b14, x7, f14⟩ => ?_)
  have hTl := textL_length l N
  refine PO.call (Part_f x7.wf X b14.rd (by omega)) fun p h8 ⟨rp, x8, fp⟩ => .ldZ5 (Box.kx x7 B6') (.chkV rfl ?_)
  have hpl : (partV X (textL l N)).length = (hto X).toNat - (hfrom X).toNat := partV_len ⟨hR, by rw [hTl, hXs]⟩
  generalize hplE : partV X (textL l N) = pl at *
  have hpl' : (pl.length : Int) = hto X - hfrom X := by omega
  have B8 := Box.kx x8 (Box.kx x7 B6')
  have hpL := RdB.len rp
  clear b14 f14 fp B6'
  refine PO.join (fun s => s.1 = (size, (cut, (more, (some ⟨h2.size, 0, some 0⟩, (p, false))))) ∧ EX h8 s.2) ?_ ?_
  · refine PO.call (known18_f x8.wf) fun a h9 ⟨e, x9⟩ => ?_
    subst e
    refine PO.condF (.retL ⟨?_, x9⟩)
    rw [show ((p.len : Int) == 0) = false by simp; omega]
  rintro ⟨s, h9⟩ ⟨e, x9⟩
  have e' : s = _ := e
  subst e'
  have x9' : EX h8 h9 := x9
  clear e x9
  have hw9 := x9'.wf.nro
  refine PO.condF ?_
  simp only
  rw [w64 (n := (p.len : Int) + 1) (by omega) (by omega)]
  have q3 := emod_b cut (show (0 : Int) < (p.len : Int) + 1 by omega)
  refine .callE (pick_f _ _ (by omega) (by omega) _) (PO.letGrow x9'.wf fun h12 x12 z12 w12 n12 => ?_)
  generalize cut % ((p.len : Int) + 1) = c at *
  have rp12 : RdB h12 p pl := by (repeat (first | assumption | refine RdB.ex (by assumption) ?_ | refine RdI.ex (by assumption) ?_ | refine RdS.ex (by assumption) ?_ | refine RdBs.ex (by assumption) ?_ | refine Rd.kx (by assumption) ?_ | refine NW.kr (by assumption) ?_))
  obtain ⟨s23, e23, r23⟩ := slB_hi (hi := c) rp12 (by omega) (by omega)
  obtain ⟨s24, e24, r24⟩ := slB_lo (lo := c) rp12 (by omega) (by omega)
  refine .op e23 (.op e24 (.ptr ?_))
  refine PO.addNew (vs := [s23, ⟨none, 0, 0⟩, s24].map encSl) w12 (by decide) (n12 6 (by omega)) (by omega) (by rw [x12.nro]; omega) fun h13 N13 B13 => .addNil (PO.letTick N13.wf fun h14 x14 z14 w14 => ?_)
  have z13 := N13.size
  have rp14 : RdB h14 p pl := RdB.ex x14 (NW.kr N13 rp12)
  have B14 : Box h14 h2.size (hdL X) := by (repeat (first | assumption | refine Box.kx (by assumption) ?_ | refine NW.kb (by assumption) ?_))
  refine .ldZ5 B14 (PO.newB (l := [p].map encSl) w14 fun h15 x15 B15 z15 w15 => ?_)
  have rp15 := RdB.ex x15 rp14
  have c1 : cat [pl] = pl := by simp [cat]
  refine PO.call (Lay_f w15 X (Box.rdS (n := 1) B15 w15 rfl (by unfold B63; omega)) (ls := [pl]) ⟨⟨rp15, by omega⟩, trivial⟩ (by simp) (by rw [c1]; omega)) fun s30 h16 ⟨r30, x16⟩ => ?_
  rw [c1] at r30
  have rp16 := RdB.ex x16 rp15
  have B16 : Box h16 h2.size (hdL X) := by (repeat (first | assumption | refine Box.kx (by assumption) ?_ | refine NW.kb (by assumption) ?_))
  have T16 : Box h16 (h9.size + 6) ([s23, ⟨none, 0, 0⟩, s24].map encSl) := Box.kx x16 (Box.kx x15 (Box.kx x14 B13))
  have c2 : cat [pl.take c.toNat, [], pl.drop c.toNat] = pl := by simp [cat]
  refine .ptr (.ldZ5 B16 (PO.call (Lay_f x16.wf X (Box.rdS (n := 3) T16 x16.wf rfl (by unfold B63; omega)) (ls := [pl.take c.toNat, [], pl.drop c.toNat]) ⟨⟨RdB.ex x16 (RdB.ex x15 (RdB.ex x14 (NW.kr N13 r23))), by simp; omega⟩, ⟨rd_nil 1 _, by simp⟩, ⟨RdB.ex x16 (RdB.ex x15 (RdB.ex x14 (NW.kr N13 r24))), by simp; omega⟩, trivial⟩ (by simp) (by rw [c2]; omega)) fun s36 h17 ⟨r36, x17⟩ => ?_))
  rw [c2] at r36
  have rp17 := RdB.ex x17 rp16
  have B17 := Box.kx x17 B16
  have hw17 := x17.wf.nro
  refine .ptr (PO.letGrow x17.wf fun h18 x18 z18 w18 n18 => .ldZ5 (Box.kx x18 B17) ?_)
  have q5 := emod_b more (show (0 : Int) < 5 by omega)
  refine .callE (pick_f _ _ (by omega) (by omega) _) ?_
  rw [w64 (n := 1 + more % 5) (by omega) (by omega)]
  obtain ⟨M, hM⟩ : ∃ M : Nat, 1 + more % 5 = (M : Int) := ⟨(1 + more % 5).toNat, by omega⟩
  rw [hM, Int.toNat_natCast, zeros8]
  refine PO.chk (by simp; omega) ?_
  refine PO.addNew w18 (by decide) (n18 5 (by omega)) (by omega) (by rw [x18.nro]; omega) fun h19 N19 B19 => ?_
  have z19 := N19.size
  refine PO.addNew (vs := [p, (⟨some ⟨h17.size + 5, 0, some 0⟩, M, M⟩ : Sl)].map encSl) N19.wf (by decide) (N19.nn (by omega) (by omega) (n18 6 (by omega))) (by omega) (by rw [N19.up.nro, x18.nro]; omega) fun h20 N20 B20 => .addNil ?_
  have z20 := N20.size
  have rp18 := RdB.ex x18 rp17
  have rp20 : RdB h20 p pl := NW.kr N20 (NW.kr N19 rp18)
  have B18 := Box.kx x18 B17
  have B20' : Box h20 h2.size (hdL X) := NW.kb N20 (NW.kb N19 B18)
  have Bz := NW.kb N20 B19
  have c3 : cat [pl, List.replicate M 0] = pl ++ List.replicate M 0 := by simp [cat]
  refine PO.call (Lay_f N20.wf X (Box.rdS (n := 2) B20 N20.wf rfl (by unfold B63; omega)) (ls := [pl, List.replicate M 0]) ⟨⟨rp20, by omega⟩, ⟨Box.rdB Bz N20.wf (by simp) (by unfold B63; omega), by simp; omega⟩, trivial⟩ (by simp) (by rw [c3]; simp; omega)) fun s43 h21 ⟨r43, x21⟩ => ?_
  rw [c3, layV_no (by simp; omega)] at r43
  refine .ptr (.addOff (by decide) (.addOff (by decide) (.addNil (.ldZ5 B18 (.chkV rfl (.ptr ?_))))))
  refine .addOld (Box.kx x21 Bz).ne (.addOld (Box.kx x21 B20).ne (.addNil (PO.letTick x21.wf fun h24 x24 z24 w24 => PO.letGrow w24 fun h25 x25 z25 w25 n25 => ?_)))
  have hw24 := w24.nro
  have rp25 : RdB h25 p pl := RdB.ex x25 (RdB.ex x24 (RdB.ex x21 rp20))
  have B25 : Box h25 h2.size (hdL X) := Box.kx x25 (Box.kx x24 (Box.kx x21 B20'))
  rw [w64 (n := (p.len : Int) - 1) (by omega) (by omega)]
  obtain ⟨s54, e54, r54⟩ := slB_hi (hi := (p.len : Int) - 1) rp25 (by omega) (by omega)
  refine .ldZ5 B25 (.op e54 ?_)
  refine PO.addNew (vs := [s54].map encSl) w25 (by decide) (n25 6 (by omega)) (by omega) (by rw [x25.nro]; omega) fun h26 N26 B26 => .addNil ?_
  have z26 := N26.size
  have c4 : cat [pl.take ((p.len : Int) - 1).toNat] = pl.take ((p.len : Int) - 1).toNat := by simp [cat]
  have rp26 : RdB h26 p pl := NW.kr N26 rp25
  have B26' : Box h26 h2.size (hdL X) := NW.kb N26 B25
  refine PO.call (Lay_f N26.wf X (Box.rdS (n := 1) B26 N26.wf rfl (by unfold B63; omega)) (ls := [pl.take ((p.len : Int) - 1).toNat]) ⟨⟨NW.kr N26 r54, by simp; omega⟩, trivial⟩ (by simp) (by rw [c4]; simp; omega)) fun s55 h27 ⟨r55, x27⟩ => ?_
  rw [c4, layV_no (by simp; omega)] at r55
  refine .ptr (.addOld (Box.kx x27 B26).ne (.addNil (PO.letTick x27.wf fun h29 x29 z29 w29 => PO.letGrow w29 fun h30 x30 z30 w30 n30 => ?_)))
  have hw29 := w29.nro
  have rp30 : RdB h30 p pl := RdB.ex x30 (RdB.ex x29 (RdB.ex x27 rp26))
  have B30 : Box h30 h2.size (hdL X) := Box.kx x30 (Box.kx x29 (Box.kx x27 B26'))
  refine .ldI B30 rfl ?_
  have q6 := emod_b (IntKind.wrap .i64 (size + 1)) (show (0 : Int) < 600 by omega)
  refine .callE (pick_f _ _ (by omega) (by omega) _) ?_
  rw [w64 (n := 1 + IntKind.wrap .i64 (size + 1) % 600) (by omega) (by omega)]
  obtain ⟨G, hG, hG1⟩ : ∃ G, 1 + IntKind.wrap .i64 (size + 1) % 600 = G ∧ (1 ≤ G ∧ G ≤ 600) := ⟨_, rfl, by omega⟩
  rw [hG]
  obtain ⟨hv', hRG⟩ := ofV_ok (id := X.1) (dl := 77) (sz := G) (by rw [hX1]; omega)
  refine PO.call (Of_f w30 _ _ _) fun a h32 ⟨e, x32⟩ => ?_
  rw [hv'] at e
  subst e
  have hcG : 1 ≤ hcnt G ∧ hcnt G ≤ 8 := by unfold hcnt; omega
  refine PO.addNew x32.wf (by decide) ((EX.nn x32 (by omega) (n30 7 (by omega)))) (by have := x32.size; omega) (by rw [x32.nro, x30.nro]; omega) fun h33 N33 B33 => .addNil ?_
  have B32 := Box.kx x32 B30
  have rp32 := RdB.ex x32 rp30
  have hs32 := x32.size
  have z33 := N33.size
  refine PO.stZ B33 N33.wf rfl rfl fun h34 B34 u34 z34 w34 => ?_
  refine .addOff (by decide) (.addNil (.ldI B30 rfl (.chk (by simp) (.ptr ?_))))
  have B29 : Box h29 h2.size (hdL X) := Box.kx x29 (Box.kx x27 B26')
  have hb29 := B29.blt
  have B34' : Box h34 (h29.size + 7) (hdL (X.1, 77, hcnt G, 0, G)) := B34
  have C34 : Box h34 h2.size (hdL X) := Box.ku u34 (by omega) (NW.kb N33 B32)
  refine .addOld B34.ne (.addNil (PO.letTick w34 fun h37 x37 z37 w37 => .ldI (Box.kx x37 C34) rfl (.ldI (Box.kx x37 B34') rfl (.letO ?_))))
  rw [w64 (n := hcnt G - 1) (by omega) (by omega)]
  obtain ⟨J, hJ, hJ1⟩ : ∃ J, (if (if hcnt G - 1 > 0 then hcnt G - 1 else 0) < X.2.2.2.1 then (if hcnt G - 1 > 0 then hcnt G - 1 else 0) else X.2.2.2.1) = J ∧ (0 ≤ J ∧ J < hcnt G) := ⟨_, rfl, by rw [hX4]; (repeat' split) <;> omega⟩
  rw [hJ]
  refine PO.st1 (Box.kx x37 B34') w37 (by simp) rfl fun h38 B38 u38 z38 w38 => ?_
  have B38' : Box h38 (h29.size + 7) (hdL (X.1, 77, hcnt G, J, G)) := B38
  generalize hY : ((X.1, 77, hcnt G, J, G) : Hd) = Y at *
  have y38 : EX h29 h38 := u38.ex0 ((u34.ex0 (N33.ex0 (x30.trans x32) (by omega)) (fun A hA e => by omega)).trans x37) (fun A hA e => by omega)
  have rp38 : RdB h38 p pl := RdB.ex y38 (RdB.ex x29 (RdB.ex x27 rp26))
  refine .ldZ5 B38' (PO.newB (l := [p].map encSl) w38 fun h39 x39 B39 z39 w39 => ?_)
  refine PO.call (Lay_f w39 Y (Box.rdS (n := 1) B39 w39 rfl (by unfold B63; omega)) (ls := [pl]) ⟨⟨RdB.ex x39 rp38, by omega⟩, trivial⟩ (by simp) (by rw [c1]; omega)) fun s72 h40 ⟨r72, x40⟩ => ?_
  rw [c1] at r72
  have hly : (layV Y pl).length ≤ 200 := by
    by_cases hh : HR Y ∧ (pl.length : Int) = hto Y - hfrom Y
    · have := layV_length hh; omega
    · unfold layV; rw [if_neg hh]; simp
  refine PO.call (Read_f x40.wf r72 (by omega)) fun a h41 ⟨e1, e2, r41, x41⟩ => ?_
  obtain ⟨⟨a1, a2, a3, a4, a5⟩, a6, a7⟩ := a
  simp only at e1 e2 r41 x41
  refine PO.newB x41.wf fun h42 x42 B42 z42 w42 => PO.stZ B42 w42 rfl rfl fun h43 B43 u43 z43 w43 => ?_
  have y43 : EX h41 h43 := u43.ex0 x42 (fun A hA e => by omega)
  have r30' : RdB h43 s30 (layV X pl) := RdB.ex y43 (RdB.ex x41 (RdB.ex x40 (RdB.ex x39 (RdB.ex y38 (RdB.ex x29 (RdB.ex x27 (NW.kr N26 (RdB.ex x25 (RdB.ex x24 (RdB.ex x21 (NW.kr N20 (NW.kr N19 (RdB.ex x18 (RdB.ex x17 r30))))))))))))))
  have r36' : RdB h43 s36 (layV X pl) := RdB.ex y43 (RdB.ex x41 (RdB.ex x40 (RdB.ex x39 (RdB.ex y38 (RdB.ex x29 (RdB.ex x27 (NW.kr N26 (RdB.ex x25 (RdB.ex x24 (RdB.ex x21 (NW.kr N20 (NW.kr N19 (RdB.ex x18 r36)))))))))))))
  have rp43 : RdB h43 p pl := RdB.ex y43 (RdB.ex x41 (RdB.ex x40 (RdB.ex x39 rp38)))
  have hlx := layV_length (l := pl) ⟨hR, hpl'⟩
  refine .condD (fun _ => ?_) (fun hh => absurd (by rw [RdB.len r30']; omega) hh)
  refine .callE (strT_ok r36') (.callE (strT_ok r30') ?_)
  rw [bs_eq]
  refine .condD (fun _ => ?_) (fun hh => absurd rfl hh)
  refine .condE (fun _ => ?_) (fun hh => absurd (by rw [RdB.len r43]; rfl) hh)
  refine .condE (fun _ => ?_) (fun hh => absurd (by rw [RdB.len r55]; rfl) hh)
  by_cases hh : HR Y ∧ (pl.length : Int) = hto Y - hfrom Y
  · have hly' := layV_length hh
    rw [readV_layV hh] at e1 e2 r41
    simp only at e2 r41
    subst e2
    refine .condE (fun hz => absurd hz (by rw [RdB.len r72]; omega)) (fun _ => .condE (fun _ => ?_) (fun hz => absurd rfl hz))
    refine .callE (strT_ok (RdB.ex y43 r41)) (.callE (strT_ok rp43) ?_)
    rw [bs_eq]
    exact .ret (by simp)
  · have hz : layV Y pl = [] := by unfold layV; rw [if_neg hh]
    rw [hz] at r72
    exact .condE (fun _ => .ret rfl) (fun hz => absurd (by rw [RdB.len r72]; rfl) hz)
end Go.Proofs.Ythiccnmplgdheaa.T
