/- The law HeadWhole over the typed texts. -/
-- SEAT b
import Derived.Test.YthiccnmplgdheaaLHead1
set_option linter.unusedVariables false
set_option linter.unusedSimpArgs false
namespace Go.Proofs.Ythiccnmplgdheaa.T
open Go Go.Abs Go.Proofs
theorem hnums_len {x : Hd} (h : HR x) : (encs (hnums x)).length ≤ 16 := by
  have e : (encs (hnums x)).length = (sz x.1).toNat + ((sz x.2.1).toNat + ((sz x.2.2.1).toNat + ((sz x.2.2.2.1).toNat + (sz x.2.2.2.2).toNat))) := by
    simp [hnums, encs, enc_length]
  have h1 : sz x.1 = 1 := by unfold sz; rw [if_pos (by have := h.2.1; omega)]
  have h2 := sz_pos x.2.1
  have hc : x.2.2.1 ≤ 8 := by have := h.2.2.2.2.2.2.1; have := h.2.2.2.2.2.1; unfold hcnt at *; omega
  have h3 : sz x.2.2.1 = 1 := by unfold sz; rw [if_pos (by omega)]
  have h4 : sz x.2.2.2.1 = 1 := by unfold sz; rw [if_pos (by have := h.2.2.2.2.2.2.2.2; omega)]
  have h5 : sz x.2.2.2.2 ≤ 2 := by have := h.2.2.2.2.2.1; unfold sz; (repeat' split) <;> omega
  omega
theorem hd_self (x : Hd) : ((x.1 == x.1) && ((x.2.1 == x.2.1) && ((x.2.2.1 == x.2.2.1) && ((x.2.2.2.1 == x.2.2.2.1) && ((x.2.2.2.2 == x.2.2.2.2) && true))))) = true := by simp
theorem Box.app {h h' : H} {b : Nat} {l : List Value} {s : Sl} (C : Box h b l) (w : WF h) (x : ∀ h0, EX h0 h → Fr h0.size s → EX h0 h') (hf : Fr (b + 1) s) : Box h' b l := by
  have e : EX { h with size := b + 1 } h := ⟨C.blt, rfl, w, fun _ _ => rfl⟩
  have C' : Box { h with size := b + 1 } b l := ⟨C.get, C.nro, Nat.lt_succ_self _⟩
  exact Box.kx (x _ e hf) C'
theorem whole_loop {hb : H} {i d C N : Int} (hR : HR (i, d, C, 0, N)) {behind s8 : Sl} {bl t : List UInt8} (hbe : RdB hb behind bl) (ht : (t.length : Int) = N) :
    ∀ (m : Nat) (s : ((Sl × ((Option Addr) × (Sl × (Sl × Int)))) × H)), (∃ (k : Nat) (j : Int) (all : Sl) (h' : H), s = ((behind, (some ⟨hb.size, 0, some 0⟩, (s8, (all, (k : Int))))), h') ∧ ((m + k : Nat) : Int) = C ∧ Box h' hb.size (hdL (i, d, C, j, N)) ∧ RdB h' s8 t ∧ BufB h' all (t.take (80 * k)) ∧ EX hb h' ∧ Fr (hb.size + 1) all) →
    PO (loopO law18_HeadWhole_l1 s) (fun r => ∃ (j : Int) (all : Sl) (h' : H), r = Sum.inl ((behind, (some ⟨hb.size, 0, some 0⟩, (s8, all))), h') ∧ Box h' hb.size (hdL (i, d, C, j, N)) ∧ RdB h' s8 t ∧ RdB h' all t ∧ EX hb h') := by
  refine PO.loop _ ?_
  rintro m s ⟨k, j, all, h1, rfl, hm, B, r8, ba, x1, fa⟩
  have hCN : C = hcnt N := hR.2.2.2.2.2.2.1
  have hN1 : 1 ≤ N ∧ N ≤ 600 := ⟨hR.2.2.2.2.1, hR.2.2.2.2.2.1⟩
  unfold hcnt at hCN
  unfold law18_HeadWhole_l1 P.law18_HeadWhole_l1
  refine .ptr (.ldI B rfl (.condD (fun hlt => ?_) (fun hge => ?_)))
  · have hlt' : (k : Int) < C := hlt
    refine .ptr (PO.st1 B x1.wf (by simp) rfl fun h2 B2 u2 z2 w2 => ?_)
    have B2' : Box h2 hb.size (hdL (i, d, C, (k : Int), N)) := B2
    have hRk : HR (i, d, C, (k : Int), N) := ⟨hR.1, hR.2.1, hR.2.2.1, hR.2.2.2.1, hR.2.2.2.2.1, hR.2.2.2.2.2.1, hR.2.2.2.2.2.2.1, by show (0 : Int) ≤ k; omega, hlt'⟩
    have hwk' : IntKind.wrap .i64 ((k : Int) + 1) = ((k + 1 : Nat) : Int) := by rw [w64 (by omega) (by omega)]; omega
    have y2 : EX hb h2 := u2.ex0 x1 (fun A hA e => by omega)
    have r82 : RdB h2 s8 t := RdB.kbox x1.wf B u2 (by simp) r8
    have ba2 : BufB h2 all (t.take (80 * k)) := Buf.up x1.wf ba u2 (fun a ha e => by have := fa a ha; omega)
    have hb2 := y2.size
    clear B2 u2
    have hXb := hRk.b
    have hf : hfrom (i, d, C, (k : Int), N) = 80 * k := by show (k : Int) * 80 = _; omega
    have hto' : hto (i, d, C, (k : Int), N) = min (80 * (k : Int) + 80) N := by show min ((k : Int) * 80 + 80) N = _; congr 1; omega
    generalize hXE : ((i, d, C, (k : Int), N) : Hd) = X at *
    have hX5 : X.2.2.2.2 = N := by rw [← hXE]
    have hX3 : X.2.2.1 = C := by rw [← hXE]
    refine .ptr (.ldZ5 B2' (PO.call (Part_f w2 X r82 (by omega)) fun p h3 ⟨rp, x3, fp⟩ => ?_))
    have hpl := partV_len ⟨hRk, by rw [ht, hX5]⟩
    have hpv : t.take (80 * k) ++ partV X t = t.take (80 * (k + 1)) := by
      unfold partV
      rw [if_pos ⟨hRk, by rw [ht, hX5]⟩, hf]
      have e : ((80 * (k : Int)).toNat) = 80 * k := by omega
      rw [e, show 80 * (k + 1) = 80 * k + 80 by omega, List.take_add]
      congr 1
      by_cases hh : 80 * k + 80 ≤ t.length
      · congr 1; omega
      · rw [List.take_of_length_le (by simp; omega), List.take_of_length_le (by simp; omega)]
    generalize partV X t = pl at *
    have hpl' : (pl.length : Int) = hto X - hfrom X := by omega
    have B3 := Box.kx x3 B2'
    have hpL := RdB.len rp
    refine .ptr (.ldZ5 B3 (PO.newB (l := [p].map encSl) x3.wf fun h4 x4 B4 z4 w4 => ?_))
    have c1 : cat [pl] = pl := by simp [cat]
    refine PO.call (Lay_f w4 X (Box.rdS (n := 1) B4 w4 rfl (by unfold B63; omega)) (ls := [pl]) ⟨⟨rp.ex x4, by omega⟩, trivial⟩ (by simp) (by rw [c1]; omega)) fun sx h5 ⟨rx, x5⟩ => ?_
    rw [c1] at rx
    have hl1 := layV_length (l := pl) ⟨hRk, hpl'⟩
    have hlv : (layV X pl).length ≤ 116 := by
      have := hnums_len hRk
      unfold layV; rw [if_pos ⟨hRk, hpl'⟩, List.length_append]; omega
    refine PO.call (Read_f x5.wf rx (by omega)) fun a h6 ⟨e1, e2, r6, x6⟩ => ?_
    rw [readV_layV ⟨hRk, hpl'⟩] at e1 e2 r6
    obtain ⟨a1, a2, a3⟩ := a
    simp only at e1 e2 r6 x6
    subst e1 e2
    refine PO.newB x6.wf fun h7 x7 B7 z7 w7 => PO.stZ B7 w7 rfl rfl fun h8 B8 u8 z8 w8 => ?_
    have y8 : EX h6 h8 := u8.ex0 x7 (fun A hA e => by omega)
    have B8' : Box h8 h6.size (hdL a1) := B8
    have C8 : Box h8 hb.size (hdL a1) := Box.kx y8 (Box.kx x6 (Box.kx x5 (Box.kx x4 B3)))
    have rp8 : RdB h8 p pl := RdB.ex y8 (RdB.ex x6 (RdB.ex x5 (RdB.ex x4 rp)))
    have r88 : RdB h8 s8 t := RdB.ex y8 (RdB.ex x6 (RdB.ex x5 (RdB.ex x4 (RdB.ex x3 r82))))
    have r6' : RdB h8 a2 pl := RdB.ex y8 r6
    have z28 : EX h2 h8 := (((x3.trans x4).trans x5).trans x6).trans y8
    have ba8 : BufB h8 all (t.take (80 * k)) := BufB.ex w2 z28 ba2
    refine PO.join (fun s => s = ((behind, (some ⟨hb.size, 0, some 0⟩, (s8, (all, ((k : Int), (p, false)))))), h8)) ?_ ?_
    · refine .condNE (fun hh => absurd rfl hh) (fun _ => .ldZ5 B8' (.ptr (.ldZ5 C8 (.letO (.condN (fun _ => ?_) (fun hh => ?_))))))
      · rename_i hh; rw [hd_self a1] at hh; simp at hh
      · refine .callE (strT_ok r6') (.callE (strT_ok rp8) ?_)
        rw [bs_eq]
        refine .condND (fun hh => absurd rfl hh) (fun _ => .condE (fun hh => absurd hh (by omega)) (fun _ => .condD (fun hh => absurd hh (by omega)) (fun _ => .ptr (.ldI C8 rfl ?_))))
        rw [hwk', RdB.len rx]
        have hno : decide ((((layV a1 pl).length : Nat) : Int) > 116) = false := decide_eq_false (by omega)
        refine .condD (fun hh => .condNE (fun hh2 => absurd ?_ hh2) (fun _ => .retL ?_)) (fun hh => .retL ?_)
        · have hh' : ((k + 1 : Nat) : Int) < a1.2.2.1 := hh
          omega
        · rw [hno]
        · rw [hno]
    · rintro _ rfl
      refine PO.condF ?_
      have hwk : IntKind.wrap .i64 ((k : Int) + 1) = ((k + 1 : Nat) : Int) := by rw [w64 (by omega) (by omega)]; omega
      obtain ⟨s', h', e9, k9, x9, b9, _, f9⟩ := appB_ok (e := 5) w8 ba8 rp8 (by simp; omega)
      have hs8 := z28.size
      refine .callE e9 (.retL ⟨m - 1, by omega, k + 1, (k : Int), s', h', by rw [hwk], by omega, ?_, Rd.mono r88 k9, by rw [← hpv]; exact b9, x9 hb (y2.trans z28) (fa.mono (by omega)), f9 _ (by have := C8.blt; omega) fa⟩)
      rw [hXE]
      exact Box.app C8 w8 x9 fa
  · have hge' : ¬ (k : Int) < C := hge
    have hk : ((k : Nat) : Int) = C := by omega
    refine .retR ⟨j, all, h1, rfl, B, r8, ?_, x1⟩
    have : t.take (80 * k) = t := List.take_of_length_le (by omega)
    rw [this] at ba
    exact ba.rd
theorem HeadWhole (id deadline size : Int) (payload behind : Sl) (h : H) (w : WF h) (g1 : RNG id) (g2 : RNG deadline) (g3 : RNG size) (l : List UInt8) (hr : RdB h payload l) (hl : l.length ≤ 140737488351232) (bl : List UInt8) (hrb : RdB h behind bl) (hbl : bl.length ≤ 140737488351232) :
    ∃ h', law18_HeadWhole id deadline size payload behind h = some (true, h') := by
  refine PO.law ?_
  unfold law18_HeadWhole P.law18_HeadWhole
  have q0 := emod_b size (show (0 : Int) < 600 by omega)
  have q1 := emod_b id (show (0 : Int) < 40 by omega)
  refine .callE (pick_f _ _ (by omega) (by omega) _) (.callE (pick_f _ _ (by omega) (by omega) _) (.callE (May_f _ _) ?_))
  have q2 := mayV_ok deadline
  unfold okN at q2
  rw [w64 (n := 1 + size % 600) (by omega) (by omega)]
  obtain ⟨N, hN⟩ : ∃ N : Nat, 1 + size % 600 = (N : Int) := ⟨(1 + size % 600).toNat, by omega⟩
  rw [hN]
  generalize id % 40 = i at *
  generalize mayV deadline = d at *
  obtain ⟨hv, hR⟩ := ofV_ok (id := i) (dl := d) (sz := N) (by omega)
  refine PO.call (Of_f w _ _ _) fun a h3 ⟨e, x3⟩ => ?_
  rw [hv] at e
  subst e
  have hc : 1 ≤ hcnt N ∧ hcnt N ≤ 8 := by unfold hcnt; omega
  refine PO.newB x3.wf fun h4 x4 B4 z4 w4 => PO.stZ B4 w4 rfl rfl fun h5 B5 u5 z5 w5 => ?_
  have B5' : Box h5 h3.size (hdL (i, d, hcnt N, 0, N)) := B5
  have y5 : EX h3 h5 := u5.ex0 x4 (fun A hA e => by omega)
  refine PO.call (Text_f w5 (RdB.ex y5 (RdB.ex x3 hr)) (by omega) N (by omega)) fun s8 h6 ⟨b8, x6, f8⟩ => ?_
  have hTl := textL_length l N
  have hrb6 : RdB h3 behind bl := RdB.ex x3 hrb
  refine PO.join (fun s => s.1 = (behind, (some ⟨h3.size, 0, some 0⟩, (s8, false))) ∧ EX h6 s.2) ?_ ?_
  · refine PO.call (known18_f x6.wf) fun a h7 ⟨e, x7⟩ => ?_
    subst e
    have C7 := Box.kx x7 (Box.kx x6 B5')
    refine PO.condF (.ldZ5 C7 (PO.call (Right_f x7.wf _) fun a h8 ⟨e, x8⟩ => ?_))
    subst e
    have C8 := Box.kx x8 C7
    refine .condND (fun hh => absurd hR hh) (fun _ => .ldI C8 rfl (.condD (fun hh => ?_) (fun _ => .ldI C8 rfl (.retL ⟨?_, x7.trans x8⟩))))
    · have hh' : hcnt N < 1 := hh
      omega
    · have : decide (hcnt N > 8) = false := decide_eq_false (by omega)
      show _ = _
      rw [← this]
  rintro ⟨s, h8⟩ ⟨e, x8⟩
  have e' : s = _ := e
  subst e'
  have x8' : EX h6 h8 := x8
  have r88 : RdB h8 s8 (textL l N) := RdB.ex x8' b8.rd
  have B8 := Box.kx x8' (Box.kx x6 B5')
  have y8 : EX h3 h8 := (y5.trans x6).trans x8'
  obtain ⟨C, hC⟩ : ∃ C : Nat, hcnt N = (C : Int) := ⟨(hcnt N).toNat, by omega⟩
  refine PO.condF (PO.joinD (PO.mono (whole_loop hR hrb6 (by rw [hTl]) C _ ⟨0, 0, ⟨none, 0, 0⟩, h8, rfl, by rw [hC]; simp, B8, r88, by rw [Nat.mul_zero, List.take_zero]; exact buf_nil 1 h8, y8, fr_nil _⟩) ?_))
  rintro _ ⟨j, all, h10, rfl, B10, r10, ra10, x10⟩
  refine .ptr (PO.st1 B10 x10.wf (by simp) rfl fun h11 B11 u11 z11 w11 => ?_)
  have B11' : Box h11 h3.size (hdL (i, d, hcnt N, 0, N)) := B11
  have y11 : EX h3 h11 := u11.ex0 x10 (fun A hA e => by omega)
  have r11 : RdB h11 s8 (textL l N) := RdB.kbox x10.wf B10 u11 (by simp) r10
  have ra11 : RdB h11 all (textL l N) := RdB.kbox x10.wf B10 u11 (by simp) ra10
  generalize hXE : ((i, d, hcnt N, 0, (N : Int)) : Hd) = X at *
  have hof : ofV X.1 X.2.1 X.2.2.2.2 = X := by rw [← hXE]; exact hv.trans hXE.symm
  refine .ptr (.ldZ5 B11' (PO.call (Short_f w11 X) fun s12 h12 ⟨r12, x12, f12⟩ => ?_))
  have hsl : (shortV X).length ≤ 24 := by
    unfold shortV; rw [if_pos hR]; exact encs_length (snums X)
  obtain ⟨s13, h13, e13, x13, b13, f13⟩ := Few_f x12.wf r12 (by omega) (n := (s12.len : Int)) (by omega)
  refine .callE e13 ?_
  rw [List.take_of_length_le (by rw [RdB.len r12]; simp)] at b13
  have hbe13 : RdB h13 behind bl := RdB.ex x13 (RdB.ex x12 (RdB.ex y11 hrb6))
  obtain ⟨s14, h14, e14, k14, x14, b14, _, f14⟩ := appB_ok (e := 5) x13.wf b13 hbe13 (by omega)
  have y14 : EX h12 h14 := x14 _ x13 f13
  refine .callE e14 (PO.call (ReadShort_f y14.wf b14.rd (by simp; omega)) fun a h15 ⟨e15, x15⟩ => ?_)
  subst e15
  have hrs : rsV (shortV X ++ bl) = (X, ((shortV X).length : Int), 0) := by
    unfold rsV shortV
    rw [if_pos hR]
    have h3 : (snums X).length = 3 := rfl
    have := tks_encs (snums X) bl hR.ok3
    rw [h3] at this
    rw [this]
    show (if ofV X.1 X.2.1 X.2.2.2.2 = hd0 then _ else _) = _
    rw [hof, if_neg (by intro e; rw [e] at hR; revert hR; decide)]
    show (ofV X.1 X.2.1 X.2.2.2.2, _, _) = _
    rw [hof]
    simp
  rw [hrs]
  refine PO.newB x15.wf fun h16 x16 B16 z16 w16 => PO.stZ B16 w16 rfl rfl fun h17 B17 u17 z17 w17 => ?_
  have y17 : EX h15 h17 := u17.ex0 x16 (fun A hA e => by omega)
  have B17' : Box h17 h15.size (hdL X) := B17
  have C17 : Box h17 h3.size (hdL X) := Box.kx y17 (Box.kx x15 (Box.kx y14 (Box.kx x12 B11')))
  have r17 : RdB h17 s8 (textL l N) := RdB.ex y17 (RdB.ex x15 (RdB.ex y14 (RdB.ex x12 r11)))
  have ra17 : RdB h17 all (textL l N) := RdB.ex y17 (RdB.ex x15 (RdB.ex y14 (RdB.ex x12 ra11)))
  refine .callE (strT_ok ra17) (.callE (strT_ok r17) ?_)
  rw [bs_eq]
  refine .condD (fun _ => ?_) (fun hh => absurd rfl hh)
  refine .condE (fun _ => ?_) (fun hh => absurd rfl hh)
  refine .ldZ5 B17' (.ptr (.ldZ5 C17 (.letO (.chk' (hd_self X) (.ret ?_)))))
  show (((shortV X).length : Int) == (s12.len : Int)) = true
  rw [RdB.len r12]; simp
end Go.Proofs.Ythiccnmplgdheaa.T
