/- Lemmas about the typed texts (joined: LIn1). -/
import Derived.Test.YtaebjajbogedkaaG18
-- SEAT c
/- Chapter 22: who is told to be away is Lost, once (InAway). -/
set_option linter.unusedVariables false
set_option linter.unusedSimpArgs false
namespace Go.Abs
open Go
theorem ldO_at {h : H} {s : Sl} {bs : List Bool} (r : Rd 1 h s (bs.map .bool)) {i : Int} (h0 : 0 ≤ i) (h1 : i < bs.length) : ∃ a, ixT 1 s i = some a ∧ Abs.ldB h a = some (bs.getD i.toNat false) := by
  have hlen : s.len = bs.length := by have := r.len; simpa using this.symm
  obtain ⟨a, ha, e⟩ := ixT_ok r h0 (by omega)
  refine ⟨_, e, ldB_of ?_⟩
  rw [Nat.mul_one]
  refine (r.ld a ha i.toNat _ ?_).2
  rw [List.getElem?_map, List.getElem?_eq_getElem (by omega)]
  simp [List.getD, show i.toNat < bs.length by omega]
end Go.Abs
namespace Go.Proofs.Ytaebjajbogedkaa.T
open Go Go.Abs Go.Proofs
theorem InAway (l whole : Sl) (h : H) (w : WF h) (zs : List Int) (hr : RdI .i64 h l zs) (hz : zs.length * 8 ≤ 140737488351232) (hzr : ∀ n ∈ zs, -9223372036854775808 ≤ n ∧ n ≤ 9223372036854775807) (bs : List Bool) (he : Rd 1 h whole (bs.map .bool)) (hb : bs.length ≤ maxLen) :
    ∃ h', law22_InAway l whole h = some (true, h') := by
  refine PO.law ?_
  unfold law22_InAway P.law22_InAway
  have hll : l.len = zs.length := RdI.len hr
  have hwl : whole.len = bs.length := by have := he.len; simpa using this.symm
  refine PO.call (INew_f w) ?_
  rintro _ h0 ⟨p, m, rfl, I0, x0, g1, g2⟩
  refine PO.join (fun q => ∃ h1, q = ((l, (whole, (some ⟨p, 0, some 0⟩, false))), h1) ∧ EX h0 h1) ?_ ?_
  · refine PO.call (known22_f x0.wf) ?_
    rintro _ h1 ⟨rfl, x1⟩
    exact .condF (.op (by rfl) (.retL ⟨h1, rfl, x1⟩))
  rintro _ ⟨h1, rfl, x1⟩
  refine .condF (PO.joinD (PO.mono (P := fun q => ∃ h2, q = Sum.inl ((l, some ⟨p, 0, some 0⟩), h2) ∧ InA h2 p m (runI ((min zs.length 40 : Nat) : Int)) [] ∧ EX h h2) ?_ ?_))
  · refine PO.loop (fun k st => ∃ (i : Nat) (h' : H), st = ((l, (whole, (some ⟨p, 0, some 0⟩, (i : Int)))), h') ∧ k + i = min zs.length 40 ∧ InA h' p m (runI i) [] ∧ EX h h') ?_ (min zs.length 40) _ ⟨0, h1, rfl, rfl, I0.ex x1, x0.trans x1⟩
    rintro k st ⟨i, h2, rfl, hk, I2, x2⟩
    unfold P.law22_InAway_l1
    have hrun := runI_len i
    refine PO.join (fun q => q = ((l, (whole, (some ⟨p, 0, some 0⟩, ((i : Int), decide (i < min zs.length 40))))), h2)) ?_ ?_
    · refine .condD (fun c => .retL ?_) (fun c => .retL ?_)
      · have : decide ((i : Int) < 40) = decide (i < min zs.length 40) := decide_eq_decide.2 (by omega)
        rw [this]
      · rw [decide_eq_false (by omega)]
    rintro _ rfl
    refine .condD (fun hlt => ?_) (fun hge => ?_)
    rotate_left
    · have : i = min zs.length 40 := by omega
      subst this
      exact .retR ⟨h2, rfl, I2, x2⟩
    have hi : 0 ≤ (i : Int) ∧ (i : Int) < 40 := by omega
    refine PO.join (fun q => ∃ h3, q = ((l, (whole, (some ⟨p, 0, some 0⟩, (i : Int)))), h3) ∧ InA h3 p m (runI ((i : Int) + 1)) [] ∧ EX h h3) ?_ ?_
    rotate_left
    · rintro _ ⟨h3, rfl, I3, x3⟩
      refine .retL ⟨k - 1, by omega, i + 1, h3, ?_, by omega, I3, x3⟩
      rw [w64 (n := (i : Int) + 1) (by omega) (by omega)]; rfl
    refine PO.call (Of_f x2.wf i 50 3) fun a h3 ⟨e, x3⟩ => ?_
    have hX : 0 ≤ (i : Int) ∧ (i : Int) < 40 ∧ 0 ≤ (50 : Int) ∧ (50 : Int) ≤ 100 := by omega
    rw [(layX (sz := 3) hX (by omega)).1] at e
    subst e
    dsimp only
    refine PO.newB (l := vB [97, 98, 99]) x3.wf fun h4 x4 B4 z4 w4 => ?_
    obtain ⟨e4, r4⟩ := mkB_ok w4 B4 (n := 3) rfl (by omega) (by omega)
    refine .callE e4 (PO.newB (l := [(⟨some ⟨h3.size, 0, some 0⟩, 3, 3⟩ : Sl)].map encSl) w4 fun h5 x5 B5 z5 w5 => ?_)
    have rb := RdB.ex x5 r4
    have rs := Box.rdS (n := 1) B5 w5 rfl (by unfold B63; omega)
    refine PO.call (LayB2 (sz := 3) w5 hX (by omega) rfl rs rb) fun s6 h6 ⟨r6, x6⟩ => ?_
    have x26 : EX h2 h6 := ((x3.trans x4).trans x5).trans x6
    have xx6 := x2.trans x26
    have I6 := I2.ex x26
    refine PO.join (fun q => q = ((l, (whole, (some ⟨p, 0, some 0⟩, ((i : Int), (s6, bs.getD i false))))), h6)) ?_ ?_
    · refine .condD (fun c => ?_) (fun c => .retL ?_)
      · obtain ⟨a, e1, e2⟩ := ldO_at (he.ex xx6) (i := (i : Int)) (by omega) (by omega)
        exact .op e1 (.op e2 (.retL rfl))
      · have : bs.getD i false = false := by simp [List.getD, show ¬ i < bs.length by omega]
        rw [this]
    rintro _ rfl
    have nm : ¬ mem (runI (i : Int)) i := by rw [mem_runI (by omega)]; omega
    have mm : mem (runI ((i : Int) + 1)) i := by rw [mem_runI (by omega)]; omega
    have hps : h.size ≤ p ∧ h.size ≤ m := ⟨g1, g2⟩
    have toEX : ∀ {ha hb : H}, EX h ha → UP (fun A => A = p ∨ A = m) ha hb → EX h hb := fun xa u => u.ex0 xa (fun A hA e => by omega)
    dsimp only
    refine .cond (fun hw => ?_) (fun hw => ?_)
    · refine PO.call (PieceN (sz := 3) x6.wf I6 (by omega) hX (by omega) rfl (by omega) r6 nm) ?_
      rintro s7 h7 ⟨e7, I7, u7⟩
      rw [addS_run hi.1 hi.2] at I7
      have xx7 := toEX xx6 u7
      have hl7 := RdE.len e7
      refine PO.join (fun q => q = ((l, (whole, (some ⟨p, 0, some 0⟩, ((i : Int), false)))), h7)) ?_ ?_
      · rw [hl7]
        exact .condF (.ixE0 e7 fun a _ ea => .op ea (.retL rfl))
      rintro _ rfl
      refine .condF (PO.newB (l := [(i : Int), (i : Int)].map (.int .i64)) u7.wf fun h8 x8 B8 z8 w8 => ?_)
      have r8 : RdI .i64 h8 ⟨some ⟨h7.size, 0, some 0⟩, 2, 2⟩ [(i : Int), (i : Int)] := B8.rd w8 rfl (capOk_self _ _ (by unfold B63; omega))
      have hrun1 := runI_len ((i : Int) + 1)
      refine PO.call (Away_f w8 (I7.ex x8) (by omega) r8 (by simp)) ?_
      rintro s9 h9 ⟨e9, I9, u9⟩
      have ha : awayL 2 (runI ((i : Int) + 1)) [(i : Int), (i : Int)] = ([], runI ((i : Int) + 1)) := by
        simp only [awayL, mm, not_true_eq_false, and_false, if_false]
      rw [ha] at e9 I9
      dsimp only at e9 I9
      have hl9 := RdE.len e9
      rw [hl9]
      exact .condF (.retL ⟨h9, rfl, I9, toEX (xx7.trans x8) u9⟩)
    · refine PO.letGrow x6.wf fun h7 x7 z7 w7 n7 => ?_
      have r7 : RdI .i64 h7 l zs := Rd.ex (xx6.trans x7) hr
      refine .ixI (j := (i : Int)) r7 (by omega) (by omega) fun a ea => .op ea ?_
      rw [Int.toNat_natCast] at ea
      have hzi := hzr (zs.getD i 0) (by rw [List.getD_eq_getElem?_getD, List.getElem?_eq_getElem (show i < zs.length by omega)]; exact List.getElem_mem _)
      have q9 := emod_b (zs.getD i 0) (show (0 : Int) < 9 by omega)
      refine .callE (pick_f _ 9 (by omega) (by omega) _) (.ixI (j := (i : Int)) r7 (by omega) (by omega) fun a1 ea1 => .op ea1 (.callE (pick_f _ 9 (by omega) (by omega) _) ?_))
      rw [Int.toNat_natCast] at ea1 ⊢
      generalize zs.getD i 0 = z at *
      rw [w64 (n := -1 - z % 9) (by omega) (by omega), w64 (n := 40 + z % 9) (by omega) (by omega)]
      have hn6 := x6.wf.nro
      refine PO.addNew (vs := [(i : Int), (i : Int), -1 - z % 9, 40 + z % 9].map (.int .i64)) w7 (by decide) (n7 15 (by omega)) (by omega) (by rw [x7.nro]; omega) fun h8 N8 B8 => .addNil ?_
      have r8 : RdI .i64 h8 ⟨some ⟨h6.size + 15, 0, some 0⟩, 4, 4⟩ [(i : Int), (i : Int), -1 - z % 9, 40 + z % 9] := B8.rd N8.wf rfl (capOk_self _ _ (by unfold B63; omega))
      have I8 := (I6.ex x7).nw N8
      have xx8 : EX h h8 := N8.ex0 (xx6.trans x7) (by have := xx6.size; omega)
      have ha : awayL 2 (runI (i : Int)) [(i : Int), (i : Int), -1 - z % 9, 40 + z % 9] = ([(2, (i : Int), 2, bsOf [])], runI ((i : Int) + 1)) := by
        have c1 : 0 ≤ (i : Int) ∧ (i : Int) < 40 ∧ ¬ mem (runI (i : Int)) i := ⟨hi.1, hi.2, nm⟩
        have c2 : ¬ (0 ≤ -1 - z % 9 ∧ -1 - z % 9 < 40 ∧ ¬ mem (runI ((i : Int) + 1)) (-1 - z % 9)) := fun hh => by omega
        have c3 : ¬ (0 ≤ 40 + z % 9 ∧ 40 + z % 9 < 40 ∧ ¬ mem (runI ((i : Int) + 1)) (40 + z % 9)) := fun hh => by omega
        have c4 : ¬ (0 ≤ (i : Int) ∧ (i : Int) < 40 ∧ ¬ mem (runI ((i : Int) + 1)) i) := fun hh => hh.2.2 mm
        simp only [awayL, if_pos c1, addS_run hi.1 hi.2, if_neg c2, if_neg c3, if_neg c4]
      have hpb : p < h6.size := I6.blt
      have hmb : m < h6.size := I6.mlt
      refine PO.call (Away_f N8.wf I8 (by omega) r8 (by simp)) ?_
      rintro s9 h9 ⟨e9, I9, u9⟩
      rw [ha] at e9 I9
      dsimp only at e9 I9
      have B9 := Box.ku u9 (by omega) B8
      have r9 := I8.rdB N8.wf u9 (NW.kr N8 (Rd.ex x7 r6))
      refine .addOff (by decide) (.addNil (.op ea1 (.chk (by simp) ?_)))
      refine PO.join (fun q => ∃ h3, q = ((l, (whole, (some ⟨p, 0, some 0⟩, ((i : Int), false)))), h3) ∧ InA h3 p m (runI ((i : Int) + 1)) [] ∧ EX h h3) ?_ ?_
      · refine .addOld B9.ne (.addNil (PO.letTick u9.wf fun h10 x10 z10 w10 => ?_))
        have hl9 := RdE.len e9
        rw [hl9]
        refine .condF (.ixE0 (Rd.ex x10 e9) fun a2 ea2 _ => .op ea2 (.letO ?_))
        rw [show bsOf [] = (⟨#[]⟩ : ByteArray) from rfl]
        simp only [beq_self_eq_true, Bool.and_self, Bool.not_true]
        have I10 := I9.ex x10
        have hrun1 := runI_len ((i : Int) + 1)
        refine .condF (PO.call (PieceO (sz := 3) w10 I10 (by omega) hX (by omega) rfl (by omega) (RdB.ex x10 r9) mm) ?_)
        rintro _ h11 ⟨rfl, x11⟩
        refine .condF (.ptr ?_)
        rw [addA_zero]
        refine PO.call (IHas_f x11.wf (I10.ex x11) (by omega) i) ?_
        rintro _ h12 ⟨rfl, x12⟩
        rw [decide_eq_true mm]
        exact .retL ⟨h12, rfl, (I10.ex x11).ex x12, (((toEX xx8 u9).trans x10).trans x11).trans x12⟩
      · rintro _ ⟨h3, rfl, I3, x3⟩
        exact .condF (.retL ⟨h3, rfl, I3, x3⟩)
  · rintro _ ⟨h2, rfl, I2, x2⟩
    refine .ptr ?_
    rw [addA_zero]
    have hrun := runI_len ((min zs.length 40 : Nat) : Int)
    refine PO.call (ICount_f (e := 41) x2.wf I2 (by omega) (nrm_runI (by omega) (by omega)) (by omega)) ?_
    rintro _ h3 ⟨rfl, x3⟩
    refine .letO (.ret ?_)
    show (cntR _ == _) = true
    rw [cnt_runI (by omega), beq_iff_eq]
    split <;> omega
end Go.Proofs.Ytaebjajbogedkaa.T
