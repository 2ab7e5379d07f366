/- Lemmas about the typed texts (joined: SSend7 LSendF SSend8). -/
import Derived.Test.YtaebjajbogedkaaG19
import Derived.Test.YtaebjajbogedkaaG17
-- SEAT c
/- Chapter 13's stream over the typed texts: Acked, Done, Reset, Turn. -/
set_option linter.unusedVariables false
set_option linter.unusedSimpArgs false
namespace Go.Proofs.Ytaebjajbogedkaa.T
open Go Go.Abs Go.Proofs
def ackS (x : SS) (v : FV) : SS := if v.id ≠ x.id then x else
  if v.kind = 3 then (let x1 : SS := { x with came := addS (sentV x v).1 (sentV x v).2 x.came, lost := dropS (sentV x v).1 (sentV x v).2 x.lost }; if endedV x v then { x1 with fc := true, fd := false } else x1)
  else if v.kind = 4 ∧ x.reset = true ∧ v.b = x.sure ∧ x.tt = true then { x with tc := true, td := false } else x
section
variable {n0 : Nat} {h : H} {p : Nat} {x : SS} {sb sl sc : Sl} {f : F9} {v : FV}
theorem Acked_f (w : WF h) (S : StrA n0 h p x sb sl sc) (R : SRng x) (hl : x.lost.length ≤ 10000) (hc : x.came.length ≤ 10000) (hv : FSm v) (r : FHd f v) :
    PO (send_Stream_Acked (some ⟨p, 0, some 0⟩) f h) (fun (_, h') => ∃ sl' sc', StrA n0 h' p (ackS x v) sb sl' sc' ∧ UP (· = p) h h') := by
  obtain ⟨e1, e2, e3, e4, e5, e6, e7⟩ := r.e
  have el := r.len
  unfold send_Stream_Acked P.send_Stream_Acked ackS
  refine PO.newB (l := f9L f) w fun h1 x1 B1 z1 w1 => ?_
  have S1 := S.kx w x1
  simp only [add_add]
  refine PO.ldI (i := 1) B1 rfl (PO.ptr (PO.ldI (i := 2) S1.box rfl (PO.condNE (fun hne => .ret ⟨sl, sc, ?_, x1.up⟩) fun heq => ?_)))
  · rw [e2] at hne; rw [if_pos hne]; exact S1
  rw [e2] at heq
  rw [if_neg (by simp [heq])]
  have hpb := S.box.blt
  refine PO.ldI (i := 0) B1 rfl (PO.condE (fun h3 => ?_) fun h3 => ?_)
  · rw [e1] at h3
    rw [if_pos h3]
    refine PO.ldF B1 ?_
    refine PO.call (sent_f w1 S1 R hv e3 el) ?_
    rintro ⟨a, b⟩ h2 ⟨eab, x2⟩
    rw [← eab]
    simp only
    have S2 := S1.kx w1 x2
    have x12 := x1.trans x2
    refine PO.ptr (PO.call (Add_f x2.wf S2.came (by omega) a b) ?_)
    rintro _ h4 ⟨v4, T4, u4, z4⟩
    obtain ⟨sc4, S4⟩ := S2.setCame x2.wf T4 u4
    refine PO.ptr (PO.call (Drop_f u4.wf S4.lost (by show x.lost.length ≤ _; omega) a b) ?_)
    rintro _ h5 ⟨v5, T5, u5, z5⟩
    obtain ⟨sl5, S5⟩ := S4.setLost u4.wf T5 u5
    have u15 : UP (· = p) h h5 := (x12.trans_up u4).trans u5 fun _ _ e => e
    have B5 := ((B1.kx x2).up x2.wf u4 (by omega)).up u4.wf u5 (by omega)
    have R5 : SRng { x with came := addS a b x.came, lost := dropS a b x.lost } := ⟨R.l0, R.u0, R.bl⟩
    refine PO.ldF B5 ?_
    refine PO.call (ended_f u5.wf S5 R5 hv e3 e7 el) ?_
    rintro q h6 ⟨e6', x6⟩
    have e6' : q = endedV x v := e6'
    subst e6'
    have S6 := S5.kx u5.wf x6
    have u16 := u15.ex x6
    refine PO.cond (fun he => ?_) (fun he => .ret ⟨sl5, sc4, ?_, u16⟩)
    · rw [he]
      refine PO.ptr (S6.st u16.wf { x with came := addS a b x.came, lost := dropS a b x.lost, fc := true } (i := 8 + 2) (by omega) rfl rfl rfl rfl rfl fun h7 S7 u7 w7 => PO.ptr (S7.st w7 { x with came := addS a b x.came, lost := dropS a b x.lost, fc := true, fd := false } (i := 8 + 1) (by omega) rfl rfl rfl rfl rfl fun h8 S8 u8 w8 => .ret ⟨sl5, sc4, S8, (u16.trans u7 fun _ _ e => e).trans u8 fun _ _ e => e⟩))
    · rw [he]; exact S6
  · rw [e1] at h3
    rw [if_neg h3]
    refine PO.join (fun q => q = ((some ⟨p, 0, some 0⟩, decide (v.kind = 4 ∧ x.reset = true ∧ v.b = x.sure ∧ x.tt = true)), h1)) ?_ ?_
    · refine PO.ldI (i := 0) B1 rfl (PO.condE (fun h4 => ?_) fun h4 => .retL ?_)
      · rw [e1] at h4
        refine PO.ptr (PO.ldB (i := 7) S1.box rfl (PO.cond (fun hr => PO.ldI (i := 4) B1 rfl (PO.ptr (PO.ldI (i := 15) S1.box rfl (PO.condE (fun hb => PO.ptr (PO.ldB (i := 11 + 0) S1.box rfl (.retL ?_))) (fun hb => .retL ?_))))) (fun hr => .retL ?_)))
        · have hb : f.2.2.2.2.1 = x.sure := hb
          have hb' : v.b = x.sure := by rw [← e5]; exact hb
          have : decide (v.kind = 4 ∧ x.reset = true ∧ v.b = x.sure ∧ x.tt = true) = x.tt := by
            cases ht : x.tt with
            | true => exact decide_eq_true ⟨h4, hr, hb', rfl⟩
            | false => exact decide_eq_false fun g => by cases g.2.2.2
          rw [this]
        · rw [decide_eq_false (fun g => hb (by rw [← g.2.2.1]; exact e5))]
        · rw [decide_eq_false (fun g => by rw [g.2.1] at hr; cases hr)]
      · rw [e1] at h4
        rw [decide_eq_false (fun g => h4 g.1)]
    · rintro _ rfl
      dsimp only
      refine PO.condD (fun hc4 => ?_) (fun hc4 => .ret ⟨sl, sc, ?_, x1.up⟩)
      · rw [if_pos hc4]
        exact PO.ptr (S1.st w1 { x with tc := true } (i := 11 + 2) (by omega) rfl rfl rfl rfl rfl fun h7 S7 u7 w7 => PO.ptr (S7.st w7 { x with tc := true, td := false } (i := 11 + 1) (by omega) rfl rfl rfl rfl rfl fun h8 S8 u8 w8 => .ret ⟨sl, sc, S8, (x1.trans_up u7).trans u8 fun _ _ e => e⟩))
      · rw [if_neg hc4]; exact S1
def doneV (x : SS) : Bool := (x.finished && x.fc && decide (gapS 0 x.b.length x.came = [])) || (x.reset && x.tc && decide (gapS 0 x.sure x.came = []))
theorem Done_f (w : WF h) (S : StrA n0 h p x sb sl sc) (hc : x.came.length ≤ 10000) :
    PO (send_Stream_Done (some ⟨p, 0, some 0⟩) h) (fun (a, h') => a = doneV x ∧ EX h h') := by
  unfold send_Stream_Done P.send_Stream_Done doneV
  simp only [add_add]
  refine PO.join (fun q => ∃ hh, q = ((some ⟨p, 0, some 0⟩, (x.finished && x.fc && decide (gapS 0 x.b.length x.came = []))), hh) ∧ EX h hh) ?_ ?_
  · refine PO.ptr (PO.ldB (i := 6) S.box rfl (PO.cond (fun h1 => PO.ptr (PO.ldB (i := 8 + 2) S.box rfl (PO.cond (fun h2 => PO.ptr (PO.ptr (PO.ldL (i := 3) S.box rfl ?_))) (fun h2 => .retL ⟨h, ?_, EX.refl w⟩)))) (fun h1 => .retL ⟨h, ?_, EX.refl w⟩)))
    · rw [S.blen]
      refine PO.call (SAll_f w S.came (by omega) 0 (x.b.length : Int)) ?_
      rintro q h2' ⟨x2, e⟩
      have e : q = _ := e
      subst e
      refine .retL ⟨h2', ?_, x2⟩
      have h1 : x.finished = true := h1
      have h2 : x.fc = true := h2
      rw [h1, h2]; rfl
    · have h2 : x.fc = false := h2
      rw [h2, Bool.and_false]; rfl
    · have h1 : x.finished = false := h1
      rw [h1]; rfl
  · rintro _ ⟨hh, rfl, y⟩
    dsimp only
    have Sy := S.kx w y
    refine PO.cond (fun hd => .ret ⟨?_, y⟩) (fun hd => ?_)
    · rw [hd]; rfl
    · rw [hd, Bool.false_or]
      refine PO.ptr (PO.ldB (i := 7) Sy.box rfl (PO.cond (fun h1 => PO.ptr (PO.ldB (i := 11 + 2) Sy.box rfl (PO.cond (fun h2 => PO.ptr (PO.ptr (PO.ldI (i := 15) Sy.box rfl ?_))) (fun h2 => .ret ⟨?_, y⟩)))) (fun h1 => .ret ⟨?_, y⟩)))
      · refine PO.call (SAll_f y.wf Sy.came (by omega) 0 x.sure) ?_
        rintro q h2' ⟨x2, e⟩
        have e : q = _ := e
        subst e
        refine .ret ⟨?_, y.trans x2⟩
        have h1 : x.reset = true := h1
        have h2 : x.tc = true := h2
        rw [h1, h2]; rfl
      · have h2 : x.tc = false := h2
        rw [h2, Bool.and_false]; rfl
      · have h1 : x.reset = false := h1
        rw [h1]; rfl
/-- Reset, where it may be -/
theorem Reset_f (w : WF h) (S : StrA n0 h p x sb sl sc) (hc : x.came.length ≤ 10000) {code sure : Int} (c0 : 0 ≤ code ∧ code ≤ 4611686018427387903) (s0 : 0 ≤ sure ∧ sure ≤ x.b.length) (hd : doneV x = false) (hr : x.reset = false) :
    PO (send_Stream_Reset (some ⟨p, 0, some 0⟩) code sure h) (fun (a, h') => a = 0 ∧ StrA n0 h' p { x with code := code, reset := true, sure := sure, tt := false, td := true, tc := false } sb sl sc ∧ UP (· = p) h h') := by
  unfold send_Stream_Reset P.send_Stream_Reset
  refine PO.join (fun q => q = ((some ⟨p, 0, some 0⟩, (code, (sure, false))), h)) ?_ ?_
  · refine PO.condD (fun g => absurd g (by omega)) fun _ => PO.condD (fun g => absurd g (by omega)) fun _ => PO.condD (fun g => absurd g (by omega)) fun _ => PO.ptr (PO.ldL (i := 3) S.box rfl (.retL ?_))
    rw [S.blen, decide_eq_false (by omega)]
  · rintro _ rfl
    dsimp only
    refine PO.condF ?_
    refine PO.join (fun q => ∃ h1, q = ((some ⟨p, 0, some 0⟩, (code, (sure, false))), h1) ∧ EX h h1) ?_ ?_
    · refine PO.call (Done_f w S hc) ?_
      rintro q h1 ⟨e, x1⟩
      have e : q = _ := e
      rw [hd] at e
      subst e
      refine PO.condF (PO.ptr (PO.ldB (i := 7) (S.kx w x1).box rfl (PO.cond (fun g => ?_) (fun _ => .retL ⟨h1, rfl, x1⟩))))
      have g : x.reset = true := g
      rw [hr] at g; cases g
    · rintro _ ⟨h1, rfl, x1⟩
      dsimp only
      have S1 := S.kx w x1
      refine PO.condF ?_
      refine PO.join (fun q => ∃ h2, q = ((some ⟨p, 0, some 0⟩, sure), h2) ∧ StrA n0 h2 p { x with code := code } sb sl sc ∧ UP (· = p) h h2) ?_ ?_
      · refine PO.ptr (PO.ldB (i := 7) S1.box rfl (PO.condN (fun _ => PO.ptr (S1.st x1.wf { x with code := code } (i := 14) (by omega) rfl rfl rfl rfl rfl fun h2 S2 u2 w2 => .retL ⟨h2, rfl, S2, x1.trans_up u2⟩)) (fun g => ?_)))
        have g : x.reset = true := g
        rw [hr] at g; cases g
      · rintro _ ⟨h2, rfl, S2, u2⟩
        dsimp only
        refine PO.ptr (S2.st u2.wf { x with code := code, reset := true } (i := 7) (by omega) rfl rfl rfl rfl rfl fun h3 S3 u3 w3 => PO.ptr (S3.st w3 { x with code := code, reset := true, sure := sure } (i := 15) (by omega) rfl rfl rfl rfl rfl fun h4 S4 u4 w4 => PO.ptr ?_))
        obtain ⟨h5, e5, B5, u5, z5⟩ := S4.box.stC w4 11 [.bool false, .bool true, .bool false] (by simp [ssL]) rfl
        have e5' : Abs.stZ [.bool, .bool, .bool] h4 (add ⟨p, 0, some 0⟩ 11) ((false, true, false) : Bool × Bool × Bool) = some h5 := e5
        refine PO.op e5' (.ret ⟨rfl, ?_, ((u2.trans u3 fun _ _ e => e).trans u4 fun _ _ e => e).trans u5 fun _ _ e => e⟩)
        exact S4.ofBox (x' := { x with code := code, reset := true, sure := sure, tt := false, td := true, tc := false }) (S' := fun _ => False) w4 B5 u5 rfl rfl rfl
def turnV (x : SS) : Bool := x.reset && x.td && decide (x.sure ≤ x.used)
def rfr (x : SS) : FV := ⟨4, x.id, x.used, x.code, x.sure, 0, false, [], []⟩
theorem Turn_f (w : WF h) (S : StrA n0 h p x sb sl sc) :
    PO (send_Stream_Turn (some ⟨p, 0, some 0⟩) h) (fun (q, h') => UP (· = p) h h' ∧ q.2 = turnV x ∧ (turnV x = false → StrA n0 h' p x sb sl sc) ∧ (turnV x = true → FHd q.1 (rfr x) ∧ StrA n0 h' p { x with tt := true, td := false } sb sl sc)) := by
  unfold send_Stream_Turn turnV
  refine PO.newB w fun h1 x1 B1 z1 w1 => ?_
  have S1 := S.kx w x1
  have hpb := S.box.blt
  simp only [add_add]
  refine PO.join (fun q => q = ((some ⟨p, 0, some 0⟩, (some ⟨h.size, 0, some 0⟩, !turnV x)), h1)) ?_ ?_
  · unfold turnV
    refine PO.ptr (PO.ldB (i := 7) S1.box rfl (PO.condN (fun h2 => .retL ?_) (fun h2 => PO.ptr (PO.ldB (i := 11 + 1) S1.box rfl (PO.condN (fun h3 => .retL ?_) (fun h3 => PO.ptr (PO.ldI (i := 0 + 1) S1.box rfl (PO.ptr (PO.ldI (i := 15) S1.box rfl (.retL ?_))))))))))
    · have h2 : x.reset = false := h2
      rw [h2]; rfl
    · have h3 : x.td = false := h3
      rw [h3, Bool.and_false]; rfl
    · have h2 : x.reset = true := h2
      have h3 : x.td = true := h3
      rw [h2, h3]
      have : decide (x.used < x.sure) = !decide (x.sure ≤ x.used) := by by_cases h : x.used < x.sure <;> simp [h] <;> omega
      rw [this]; rfl
  · rintro _ rfl
    dsimp only
    refine PO.condN (fun ht => ?_) (fun ht => ?_)
    · refine PO.ptr (PO.stZ (zs := zF) (x := ((0, 0, 0, 0, 0, 0, false, (⟨none, 0, 0⟩ : Sl), (⟨none, 0, 0⟩ : Sl)) : F9)) B1 w1 rfl rfl fun h2 B2 u2 z2 w2 => ?_)
      have B2 : Box h2 h.size (f9L (0, 0, 0, 0, 0, 0, false, ⟨none, 0, 0⟩, ⟨none, 0, 0⟩)) := B2
      have x2 : EX h h2 := u2.ex0 x1 fun A hA e => by omega
      have ht' : (x.reset && x.td && decide (x.sure ≤ x.used)) = false := ht
      exact PO.ptr (PO.ldF B2 (.ret ⟨x2.up, by rw [ht'], fun _ => S.kx w x2, fun g => by rw [ht'] at g; cases g⟩))
    · have ht' : (x.reset && x.td && decide (x.sure ≤ x.used)) = true := ht
      refine PO.ptr (S1.st w1 { x with tt := true } (i := 11 + 0) (by omega) rfl rfl rfl rfl rfl fun h2 S2 u2 w2 => PO.ptr (S2.st w2 { x with tt := true, td := false } (i := 11 + 1) (by omega) rfl rfl rfl rfl rfl fun h3 S3 u3 w3 => ?_))
      have u13 := u2.trans u3 fun _ _ e => e
      have B3 := B1.up w1 u13 (by omega)
      refine PO.ptr (PO.ldI (i := 2) S3.box rfl (PO.ptr (PO.ldI (i := 14) S3.box rfl (PO.ptr (PO.ldI (i := 0 + 1) S3.box rfl (PO.ptr (PO.ldI (i := 15) S3.box rfl (PO.ptr ?_))))))))
      refine PO.stZ (zs := zF) (x := ((4, x.id, x.used, x.code, x.sure, 0, false, (⟨none, 0, 0⟩ : Sl), (⟨none, 0, 0⟩ : Sl)) : F9)) B3 w3 rfl rfl fun h4 B4 u4 z4 w4 => ?_
      have B4 : Box h4 h.size (f9L (4, x.id, x.used, x.code, x.sure, 0, false, ⟨none, 0, 0⟩, ⟨none, 0, 0⟩)) := B4
      have u03 : UP (· = p) h h3 := x1.trans_up u13
      refine PO.ptr (PO.ldF B4 (.ret ⟨⟨Nat.le_trans u03.size u4.size, u4.nro.trans u03.nro, w4, fun A hA hn => (u4.same A (Nat.lt_of_lt_of_le hA u03.size) (by have hA : A < h.size := hA; intro e; have e : A = h.size := e; omega)).trans (u03.same A hA hn), u4.st.trans u03.st⟩, by rw [ht'], fun g => (by rw [ht'] at g; cases g), fun _ => ⟨⟨⟨rfl, rfl, rfl, rfl, rfl, rfl, rfl⟩, rfl⟩, ?_⟩⟩))
      exact ⟨S3.box.up w3 u4 (by omega), Rd.old u4 S.rb (Nat.le_refl _) S3.rb, Rd.old u4 S.rl (Nat.le_refl _) S3.rl, Rd.old u4 S.rc (Nat.le_refl _) S3.rc, S3.nb, S3.nl, S3.nc, S3.p0⟩
end
end Go.Proofs.Ytaebjajbogedkaa.T
-- SEAT c
/- The law SendFresh over the typed texts. -/
set_option linter.unusedVariables false
set_option linter.unusedSimpArgs false
namespace Go.Proofs.Ytaebjajbogedkaa.T
open Go Go.Abs Go.Proofs
/-! rows as slices of calls, frames -/
theorem PO.boxZ {α : Type} {Q : α → Prop} {h : H} {zs : List Z} {x : ZT zs} {t : Nat} {L : List Value} {f : Nat → H → Option α} (hl : zs.length = L.length) (hn : noAny zs = true) (w : WF h) (p : ∀ h2, EX h h2 → Box h2 h.size (encL zs x) → PO (f h.size h2) Q) :
    PO (newO (row t L) h fun (b : Nat) (h1 : H) => bindO (Abs.stZ zs h1 ⟨b, 0, some 0⟩ x) fun (h2 : H) => f b h2) Q := by
  refine PO.newB w fun h1 x1 B1 z1 w1 => ?_
  refine PO.stZ (zs := zs) (x := x) B1 w1 hl hn fun h2 B2 u2 z2 w2 => ?_
  exact p h2 (u2.ex0 x1 fun A hA e => by omega) B2
def zD4 : List Z := [.int .i64, .int .i64, .int .i64, .int .i64, .sl]
theorem PO.ixD4 {α : Type} {Q : α → Prop} {h : H} {s : Sl} {xs : List F5} {j : Int} {g : Addr → Option α} (r : Rd 5 h s (csD4 xs)) (h0 : 0 ≤ j) (h1 : j < xs.length)
    (p : ∀ a x, xs[j.toNat]? = some x → Abs.ldZ zD4 h a = some x → PO (g a) Q) : PO (bindO (ixT 5 s j) g) Q := by
  have hl := r.len
  rw [csD4_length] at hl
  obtain ⟨a, ha, e⟩ := ixT_ok r h0 (by omega)
  have hj : j.toNat < xs.length := by omega
  have hx : xs[j.toNat]? = some xs[j.toNat] := List.getElem?_eq_getElem hj
  have hc : ∀ q, q < 5 → ∀ v, (f5L xs[j.toNat])[q]? = some v → ldCell h (add (add a (j.toNat * 5)) q) = some v := by
    intro q hq v hv
    rw [add_add]
    refine (r.ld a ha _ v ?_).2
    rw [csD4_get _ _ _ hq, hx]; exact hv
  refine .op e (p _ _ hx (ldZ_of (zs := zD4) ?_))
  exact ldCells_of (f5L xs[j.toNat]) _ fun i v hi => hc i (List.getElem?_eq_some_iff.1 hi).1 v hi
theorem PO.ixFs {α : Type} {Q : α → Prop} {h : H} {s : Sl} {fs : List F9} {j : Int} {g : Addr → Option α} (r : Rd 9 h s (fsV fs)) (h0 : 0 ≤ j) (h1 : j < fs.length)
    (p : ∀ a x, x ∈ fs → Abs.ldZ zF h a = some x → PO (g a) Q) : PO (bindO (ixT 9 s j) g) Q := by
  have hl := r.len
  rw [fsV_length] at hl
  obtain ⟨a, ha, e⟩ := ixT_ok r h0 (by omega)
  have hj : j.toNat < fs.length := by omega
  refine .op e (p _ (fs.getD j.toNat f90) (getD_mem _ _ hj) (r.ldZat ha _ zF _ ?_))
  exact fsV_get fs j.toNat hj
theorem brg_id' {n : Int} (h : 0 ≤ n ∧ n ≤ 4611686018427387904) : brg n = n := by unfold brg; omega
/-! the pure invariant -/
structure FInv (x : SS) (N : Nat) : Prop where
  ok : SOK x
  id : x.id = 3
  len : x.b.length = N
  fin : x.finished = false
  rst : x.reset = false
  came : x.came = []
  ul : x.used ≤ x.limit
structure FOK (x : SS) (v : FV) : Prop where
  k : v.kind = 3
  id : v.id = 3
  fin : v.fin = false
  off : 0 ≤ v.off
  d1 : 1 ≤ v.data.length
  d2 : v.data.length ≤ 4000
  to : v.off + v.data.length ≤ x.used
theorem FOK.sm {x : SS} {N : Nat} (I : FInv x N) {v : FV} (f : FOK x v) : FSm v := ⟨by have := f.off; have := f.to; have := I.ok.rng.u0; omega, by have := f.d2; omega⟩
theorem FOK.mono {x y : SS} {v : FV} (f : FOK x v) (h : x.used ≤ y.used) : FOK y v := ⟨f.k, f.id, f.fin, f.off, f.d1, f.d2, Int.le_trans f.to h⟩
theorem FInv.raise {x : SS} {N : Nat} (I : FInv x N) (n : Int) : FInv (raiseV n x) N ∧ (raiseV n x).used = x.used := by
  unfold raiseV
  split
  · exact ⟨I, rfl⟩
  · rename_i h
    have := I.ok.rng.l0
    exact ⟨⟨⟨⟨by show 0 ≤ n ∧ n ≤ _; omega, I.ok.rng.u0, I.ok.rng.bl⟩, I.ok.nrl, I.ok.sure, I.ok.ub⟩, I.id, I.len, I.fin, I.rst, I.came, by show x.used ≤ n; have := I.ul; omega⟩, rfl⟩
theorem addS_nrm {l : List Run} {e f t : Int} (h : Nrm (-1) e l) (he : e ≤ 4611686018427387904) (hf : 0 ≤ f) (ht : t ≤ e) : Nrm (-1) e (addS f t l) := by
  unfold addS
  split
  · rename_i hlt
    have h1 : brg f = f := by unfold brg at hlt ⊢; omega
    have h2 : brg t = t := by unfold brg at hlt ⊢; omega
    rw [h1, h2] at hlt ⊢
    exact addR_nrm _ _ _ _ _ h (by omega) hlt ht
  · exact h
theorem dropS_nrm {l : List Run} {lo e f t : Int} (h : Nrm lo e l) : Nrm lo e (dropS f t l) := by
  unfold dropS
  split
  · exact dropR_nrm _ _ _ _ _ h (by assumption)
  · exact h
theorem FInv.lost {x : SS} {N : Nat} (I : FInv x N) {v : FV} (f : FOK x v) : FInv (lostS x v) N ∧ (lostS x v).used = x.used := by
  have hu := I.ok.rng.u0
  have := f.to; have := f.off; have := f.d1
  have e1 : sentV x v = (v.off, v.off + v.data.length) := by
    unfold sentV; rw [if_neg (by omega)]; congr 1; omega
  have hv2 : v.off + v.data.length ≤ 4611686018427387903 := by omega
  have e2 : gapS v.off (v.off + v.data.length) x.came = [(v.off, v.off + v.data.length)] := by
    unfold gapS; rw [I.came, brg_id' (n := v.off) ⟨f.off, by omega⟩, brg_id' (n := v.off + v.data.length) ⟨by omega, by omega⟩, gapR, if_pos (show v.off < v.off + (v.data.length : Int) by omega)]
  have e3 : endedV x v = false := by unfold endedV; rw [f.fin]; rfl
  have e4 : lostS x v = { x with lost := addS v.off (v.off + v.data.length) x.lost } := by
    unfold lostS
    rw [if_neg (by rw [f.id, I.id]; simp), if_pos f.k, e1, e2, e3]; rfl
  rw [e4]
  have hnr : Nrm (-1) x.used (addS v.off (v.off + v.data.length) x.lost) := addS_nrm I.ok.nrl (by omega) (by omega) (by omega)
  exact ⟨⟨⟨⟨I.ok.rng.l0, I.ok.rng.u0, I.ok.rng.bl⟩, hnr, I.ok.sure, I.ok.ub⟩, I.id, I.len, I.fin, I.rst, I.came, I.ul⟩, rfl⟩
theorem FInv.next {x : SS} {N : Nat} (I : FInv x N) {room most f u : Int} (h : PickV x room most f u) : FInv (nextX x f u) N ∧ FOK (nextX x f u) (sfr x f u) ∧ f < u := by
  have P := h.picked I.ok
  have hu := I.ok.rng.u0; have hl := I.ok.rng.l0; have hbl := I.ok.rng.bl
  have hends : ∀ t, endsV x t = false := fun t => by unfold endsV; rw [I.fin]; rfl
  have hfu : f < u := by
    rcases P.len with h | ⟨_, _, _, h, _⟩
    · exact h
    · rw [hends] at h; cases h
  have hfr := P.fresh
  have hub := P.ub
  have hf0 := P.f0
  have hlen := sfr_len (x := x) P.f0 P.fu P.ub
  have hnrl : Nrm (-1) (max x.used u) (dropS f u x.lost) := (dropS_nrm I.ok.nrl).mono (Int.le_refl _) (by omega)
  have hxu := I.ok.ub
  have hul := I.ul
  have hused : max x.used u ≤ x.limit := by unfold leftV at hfr; omega
  refine ⟨⟨⟨⟨hl, ⟨by show 0 ≤ max x.used u; omega, by show max x.used u ≤ 4611686018427387903; omega⟩, hbl⟩, hnrl, I.ok.sure, by show max x.used u ≤ (x.b.length : Int); omega⟩, I.id, I.len, I.fin, I.rst, I.came, hused⟩, ⟨rfl, I.id, hends u, hf0, by omega, by omega, ?_⟩, hfu⟩
  show f + _ ≤ max x.used u
  omega
/-! the calls -/
structure FI (h0 hh : H) (p N : Nat) (x : SS) (sent : Sl) (m : Nat) : Prop where
  ex : EX h0 hh
  str : ∃ sb sl sc, StrA h0.size hh p x sb sl sc
  inv : FInv x N
  sent : ∃ fs : List F9, Buf 9 hh sent (fsV fs) ∧ Fr (p + 1) sent ∧ fs.length ≤ m ∧ ∀ f ∈ fs, ∃ v, FHd f v ∧ FOK x v
theorem FI.kx {h0 hh h1 : H} {p N m : Nat} {x : SS} {sent : Sl} (T : FI h0 hh p N x sent m) (y : EX hh h1) : FI h0 h1 p N x sent m := by
  obtain ⟨sb, sl, sc, S⟩ := T.str
  obtain ⟨fs, b, f, l, g⟩ := T.sent
  exact ⟨T.ex.trans y, ⟨sb, sl, sc, S.kx T.ex.wf y⟩, T.inv, fs, b.ex T.ex.wf y, f, l, g⟩
theorem FI.upd {h0 hh h1 : H} {p N m : Nat} {x y : SS} {sent : Sl} (T : FI h0 hh p N x sent m) (u : UP (· = p) hh h1) (S : ∃ sb sl sc, StrA h0.size h1 p y sb sl sc) (I : FInv y N) (hu : x.used ≤ y.used) : FI h0 h1 p N y sent m := by
  obtain ⟨fs, b, f, l, g⟩ := T.sent
  obtain ⟨_, _, _, A⟩ := T.str
  refine ⟨u.ex0 T.ex fun B hB e => by have := A.p0; omega, S, I, fs, Buf.up T.ex.wf b u fun a ha e => ?_, f, l, fun q hq => let ⟨v, h1, h2⟩ := g q hq; ⟨v, h1, h2.mono hu⟩⟩
  have := f a ha; have e : a.block = p := e; omega
end Go.Proofs.Ytaebjajbogedkaa.T
-- SEAT c
/- Chapter 13's stream: what is sent is lost, or came: the plain laws of a step. -/
set_option linter.unusedVariables false
set_option linter.unusedSimpArgs false
namespace Go.Proofs.Ytaebjajbogedkaa.T
open Go Go.Abs Go.Proofs
theorem brg_mem {f t : Int} (hf : 0 ≤ f) (ht : t ≤ 4611686018427387904) (hft : f ≤ t) : brg f = f ∧ brg t = t := by unfold brg; omega
theorem addS_mem {l : List Run} {lo e f t : Int} (h : Nrm lo e l) (hf : 0 ≤ f) (hft : f ≤ t) (ht : t ≤ 4611686018427387904) (n : Int) : mem (addS f t l) n ↔ mem l n ∨ (f ≤ n ∧ n < t) := by
  obtain ⟨e1, e2⟩ := brg_mem hf ht hft
  unfold addS
  rw [e1, e2]
  split
  · exact addR_mem l lo e f t n h (by assumption)
  · exact ⟨.inl, fun g => by rcases g with g | g; exact g; omega⟩
theorem dropS_mem {l : List Run} {lo e f t : Int} (h : Nrm lo e l) (hf : 0 ≤ f) (hft : f ≤ t) (ht : t ≤ 4611686018427387904) (n : Int) : mem (dropS f t l) n ↔ mem l n ∧ ¬ (f ≤ n ∧ n < t) := by
  obtain ⟨e1, e2⟩ := brg_mem hf ht hft
  unfold dropS
  rw [e1, e2]
  split
  · exact dropR_mem f t n l lo e h (by assumption)
  · exact ⟨fun g => ⟨g, by omega⟩, fun g => g.1⟩
theorem gapS_mem {l : List Run} {lo e f t : Int} (h : Nrm lo e l) (hf : 0 ≤ f) (hft : f ≤ t) (ht : t ≤ 4611686018427387904) (n : Int) : mem (gapS f t l) n ↔ (f ≤ n ∧ n < t) ∧ ¬ mem l n := by
  obtain ⟨e1, e2⟩ := brg_mem hf ht hft
  unfold gapS
  rw [e1, e2]
  exact gapR_mem l lo e f t n h
theorem gapS_nil {l : List Run} {lo e f t : Int} (h : Nrm lo e l) (hf : 0 ≤ f) (hft : f ≤ t) (ht : t ≤ 4611686018427387904) : gapS f t l = [] ↔ ∀ n, f ≤ n → n < t → mem l n := by
  constructor
  · intro e n h1 h2
    exact Decidable.byContradiction fun hn => by
      have := (gapS_mem h hf hft ht n).2 ⟨⟨h1, h2⟩, hn⟩
      rw [e] at this
      exact (mem_nil n).1 this
  · intro hall
    have hn : Nrm (f - 1) t (gapS f t l) := by
      obtain ⟨e1, e2⟩ := brg_mem hf ht hft
      unfold gapS; rw [e1, e2]
      exact gapR_nrm l lo e f t (f - 1) t h (by omega) (Int.le_refl _)
    exact nrm_ext _ [] _ _ 0 0 hn trivial fun n => by
      rw [gapS_mem h hf hft ht, mem_nil]
      exact ⟨fun ⟨a, b⟩ => b (hall n a.1 a.2), fun g => g.elim⟩
theorem gapS_all {l : List Run} {lo e f t : Int} (h : Nrm lo e l) (hf : 0 ≤ f) (hft : f < t) (ht : t ≤ 4611686018427387904) (hd : ∀ n, f ≤ n → n < t → ¬ mem l n) : gapS f t l = [(f, t)] := by
  have hn : Nrm (f - 1) t (gapS f t l) := by
    obtain ⟨e1, e2⟩ := brg_mem hf ht (Int.le_of_lt hft)
    unfold gapS; rw [e1, e2]
    exact gapR_nrm l lo e f t (f - 1) t h (by omega) (Int.le_refl _)
  refine nrm_ext _ _ _ _ (f - 1) t hn ⟨by show f - 1 < f; omega, hft, Int.le_refl _, trivial⟩ fun n => ?_
  rw [gapS_mem h hf (Int.le_of_lt hft) ht, mem_cons, mem_nil, or_false]
  exact ⟨fun g => g.1, fun g => ⟨g, hd n g.1 g.2⟩⟩
structure GInv (x : SS) : Prop where
  ok : SOK x
  id : okN x.id
  nc : Nrm (-1) x.used x.came
  cov : ∀ n, 0 ≤ n → n < x.used → mem x.came n ∨ mem x.lost n
  dis : ∀ n, mem x.came n → ¬ mem x.lost n
  ul : x.used ≤ x.limit
theorem _root_.Go.Abs.Nrm.bnd {l : List Run} {lo e n : Int} (h : Nrm lo e l) (hm : mem l n) : lo < n ∧ n < e := by
  obtain ⟨r, hr, a, b⟩ := hm
  have := h.low r hr
  omega
/-- the frame that is picked: none of its bytes came -/
theorem GInv.pickDis {x : SS} (I : GInv x) {room most f u : Int} (h : PickV x room most f u) : ∀ n, f ≤ n → n < u → ¬ mem x.came n := by
  have P := h.picked I.ok
  intro n h1 h2 hm
  have hb := I.nc.bnd hm
  unfold PickV at h
  split at h
  · rename_i r hr
    obtain ⟨rfl, g1, g2, g3, g4, _⟩ := h
    obtain ⟨hr1, _⟩ := firstR_mem hr
    exact I.dis n hm ⟨r, hr1, h1, by omega⟩
  · split at h
    · obtain ⟨rfl, _⟩ := h; omega
    · obtain ⟨_, rfl, rfl⟩ := h; omega
theorem nextX_fields (x : SS) (f u : Int) : (nextX x f u).id = x.id ∧ (nextX x f u).b = x.b ∧ (nextX x f u).came = x.came ∧ (nextX x f u).limit = x.limit ∧ (nextX x f u).used = max x.used u ∧ (nextX x f u).lost = dropS f u x.lost ∧ (nextX x f u).finished = x.finished ∧ (nextX x f u).reset = x.reset ∧ (nextX x f u).sure = x.sure ∧ (nextX x f u).fc = x.fc :=
  ⟨rfl, rfl, rfl, rfl, rfl, rfl, rfl, rfl, rfl, rfl⟩
theorem pick_sent {x : SS} (I : GInv x) {room most f u : Int} (h : PickV x room most f u) : sentV (nextX x f u) (sfr x f u) = (f, u) := by
  have P := h.picked I.ok
  have hl := sfr_len (x := x) P.f0 P.fu P.ub
  unfold sentV
  have ho : (sfr x f u).off = f := rfl
  rw [ho, if_neg (show ¬ f > (nextX x f u).used by show ¬ f > max x.used u; have := P.fu; omega)]
  refine Prod.ext rfl ?_
  show min (max x.used u) (f + ((sfr x f u).data.length : Int)) = u
  omega
/-- what is picked, and its frame comes -/
theorem ack_step {x : SS} (I : GInv x) {room most f u : Int} (h : PickV x room most f u) : ackS (nextX x f u) (sfr x f u) =
    (let y : SS := { nextX x f u with came := addS f u x.came, lost := dropS f u (dropS f u x.lost) }; if endedV (nextX x f u) (sfr x f u) then { y with fc := true, fd := false } else y) := by
  unfold ackS
  rw [if_neg (show ¬ (sfr x f u).id ≠ (nextX x f u).id from fun g => g rfl), if_pos (show (sfr x f u).kind = 3 from rfl), pick_sent I h]; rfl
theorem dropS_idem {l : List Run} {lo e f u : Int} (h : Nrm lo e l) (hf : 0 ≤ f) (hfu : f ≤ u) (hu : u ≤ 4611686018427387904) : dropS f u (dropS f u l) = dropS f u l := by
  have h1 := dropS_nrm (f := f) (t := u) h
  refine nrm_ext _ _ _ _ _ _ (dropS_nrm h1) h1 fun n => ?_
  rw [dropS_mem h1 hf hfu hu]
  exact ⟨fun g => g.1, fun g => ⟨g, ((dropS_mem h hf hfu hu n).1 g).2⟩⟩
theorem GInv.acked {x : SS} (I : GInv x) {room most f u : Int} (h : PickV x room most f u) {y : SS} (hy : y = ackS (nextX x f u) (sfr x f u)) :
    GInv y ∧ y.lost = dropS f u x.lost ∧ (∀ n, mem y.came n ↔ mem x.came n ∨ (f ≤ n ∧ n < u)) ∧ y.used = max x.used u ∧ y.id = x.id ∧ y.b = x.b ∧ y.limit = x.limit ∧ y.finished = x.finished ∧ y.reset = x.reset ∧ y.sure = x.sure ∧ y.tt = x.tt ∧ y.td = x.td ∧ y.tc = x.tc ∧ y.code = x.code := by
  have P := h.picked I.ok
  have f0 := P.f0; have fu := P.fu; have ub := P.ub
  have bl := I.ok.rng.bl; have u0 := I.ok.rng.u0; have l0 := I.ok.rng.l0; have xub := I.ok.ub
  have hfr := P.fresh
  have hul := I.ul
  have hd := dropS_idem (f := f) (u := u) I.ok.nrl f0 fu (by omega)
  have hmc : ∀ n, mem (addS f u x.came) n ↔ mem x.came n ∨ (f ≤ n ∧ n < u) := addS_mem I.nc f0 fu (by omega)
  have hml : ∀ n, mem (dropS f u x.lost) n ↔ mem x.lost n ∧ ¬ (f ≤ n ∧ n < u) := dropS_mem I.ok.nrl f0 fu (by omega)
  have hlim : max x.used u ≤ x.limit := by unfold leftV at hfr; omega
  have n1 : Nrm (-1) (max x.used u) (dropS f u x.lost) := (dropS_nrm I.ok.nrl).mono (Int.le_refl _) (by omega)
  have n2 : Nrm (-1) (max x.used u) (addS f u x.came) := by
    by_cases hlt : f < u
    · obtain ⟨e1, e2⟩ := brg_mem f0 (show u ≤ 4611686018427387904 by omega) fu
      unfold addS
      rw [e1, e2, if_pos hlt]
      exact addR_nrm _ _ _ _ _ (I.nc.mono (Int.le_refl _) (by omega)) (by omega) hlt (by omega)
    · have e : addS f u x.came = x.came := by
        obtain ⟨e1, e2⟩ := brg_mem f0 (show u ≤ 4611686018427387904 by omega) fu
        unfold addS; rw [e1, e2, if_neg hlt]
      rw [e]; exact I.nc.mono (Int.le_refl _) (by omega)
  have core : ∀ y : SS, y.used = max x.used u → y.id = x.id → y.b = x.b → y.limit = x.limit → y.sure = x.sure → y.lost = dropS f u x.lost → y.came = addS f u x.came → GInv y := by
    intro y e1 e2 e3 e4 e5 e6 e7
    refine ⟨⟨⟨by rw [e4]; exact l0, by rw [e1]; omega, by rw [e3]; exact bl⟩, by rw [e1, e6]; exact n1, by rw [e5, e3]; exact I.ok.sure, by rw [e1, e3]; omega⟩, by rw [e2]; exact I.id, by rw [e1, e7]; exact n2, fun n h0 h1 => ?_, fun n h1 => ?_, by rw [e1, e4]; exact hlim⟩
    · rw [e7, e6, hmc, hml]
      by_cases hr : f ≤ n ∧ n < u
      · exact .inl (.inr hr)
      · have : n < x.used := by
          rw [e1] at h1
          rcases Int.lt_or_le n x.used with g | g
          · exact g
          · have := hfr (by omega); omega
        rcases I.cov n h0 this with g | g
        · exact .inl (.inl g)
        · exact .inr ⟨g, hr⟩
    · rw [e7, hmc] at h1
      rw [e6, hml]
      rintro ⟨g1, g2⟩
      rcases h1 with h1 | h1
      · exact I.dis n h1 g1
      · exact g2 h1
  rw [ack_step I h] at hy
  simp only [hd] at hy
  subst hy
  split
  · exact ⟨core _ rfl rfl rfl rfl rfl rfl rfl, rfl, hmc, rfl, rfl, rfl, rfl, rfl, rfl, rfl, rfl, rfl, rfl, rfl⟩
  · exact ⟨core _ rfl rfl rfl rfl rfl rfl rfl, rfl, hmc, rfl, rfl, rfl, rfl, rfl, rfl, rfl, rfl, rfl, rfl, rfl⟩
/-- what is picked, and its frame is lost -/
theorem GInv.losing {x : SS} (I : GInv x) {room most f u : Int} (h : PickV x room most f u) {y : SS} (hy : y = lostS (nextX x f u) (sfr x f u)) :
    GInv y ∧ (∀ n, mem y.lost n ↔ mem x.lost n ∨ (f ≤ n ∧ n < u)) ∧ y.lost = addS f u (dropS f u x.lost) ∧ y.came = x.came ∧ y.used = max x.used u ∧ y.id = x.id ∧ y.b = x.b ∧ y.limit = x.limit ∧ y.finished = x.finished ∧ y.reset = x.reset ∧ y.sure = x.sure ∧ y.tt = x.tt ∧ y.td = x.td ∧ y.tc = x.tc ∧ y.code = x.code ∧ y.fc = x.fc := by
  have P := h.picked I.ok
  have f0 := P.f0; have fu := P.fu; have ub := P.ub
  have bl := I.ok.rng.bl; have u0 := I.ok.rng.u0; have l0 := I.ok.rng.l0; have xub := I.ok.ub
  have hfr := P.fresh
  have hul := I.ul
  have hpd := I.pickDis h
  have hlim : max x.used u ≤ x.limit := by unfold leftV at hfr; omega
  have n1 : Nrm (-1) (max x.used u) (dropS f u x.lost) := (dropS_nrm I.ok.nrl).mono (Int.le_refl _) (by omega)
  have hml : ∀ n, mem (dropS f u x.lost) n ↔ mem x.lost n ∧ ¬ (f ≤ n ∧ n < u) := dropS_mem I.ok.nrl f0 fu (by omega)
  have hma : ∀ n, mem (addS f u (dropS f u x.lost)) n ↔ mem x.lost n ∨ (f ≤ n ∧ n < u) := fun n => by
    rw [addS_mem n1 f0 fu (by omega), hml]
    by_cases hr : f ≤ n ∧ n < u
    · simp [hr]
    · simp [hr]
  have n2 : Nrm (-1) (max x.used u) (addS f u (dropS f u x.lost)) := addS_nrm n1 (by omega) f0 (by omega)
  have eg : addsL (gapS f u x.came) (dropS f u x.lost) = addS f u (dropS f u x.lost) := by
    by_cases hlt : f < u
    · rw [gapS_all I.nc f0 hlt (by omega) hpd]; rfl
    · obtain ⟨e1, e2⟩ := brg_mem f0 (show u ≤ 4611686018427387904 by omega) fu
      have e3 : gapS f u x.came = [] := (gapS_nil I.nc f0 fu (by omega)).2 fun n a b => by omega
      rw [e3]
      unfold addS
      rw [e1, e2, if_neg hlt]; rfl
  have core : ∀ y : SS, y.used = max x.used u → y.id = x.id → y.b = x.b → y.limit = x.limit → y.sure = x.sure → y.lost = addS f u (dropS f u x.lost) → y.came = x.came → GInv y := by
    intro y e1 e2 e3 e4 e5 e6 e7
    refine ⟨⟨⟨by rw [e4]; exact l0, by rw [e1]; omega, by rw [e3]; exact bl⟩, by rw [e1, e6]; exact n2, by rw [e5, e3]; exact I.ok.sure, by rw [e1, e3]; omega⟩, by rw [e2]; exact I.id, by rw [e1, e7]; exact I.nc.mono (Int.le_refl _) (by omega), fun n h0 h1 => ?_, fun n h1 => ?_, by rw [e1, e4]; exact hlim⟩
    · rw [e7, e6, hma]
      by_cases hr : f ≤ n ∧ n < u
      · exact .inr (.inr hr)
      · have : n < x.used := by
          rw [e1] at h1
          rcases Int.lt_or_le n x.used with g | g
          · exact g
          · have := hfr (by omega); omega
        rcases I.cov n h0 this with g | g
        · exact .inl g
        · exact .inr (.inl g)
    · rw [e7] at h1
      rw [e6, hma]
      rintro (g1 | g2)
      · exact I.dis n h1 g1
      · exact hpd n g2.1 g2.2 h1
  have ey : lostS (nextX x f u) (sfr x f u) = (let x1 : SS := { nextX x f u with lost := addS f u (dropS f u x.lost) }; if endedV (nextX x f u) (sfr x f u) && !(nextX x f u).fc then { x1 with fd := true } else x1) := by
    unfold lostS
    rw [if_neg (show ¬ (sfr x f u).id ≠ (nextX x f u).id from fun g => g rfl), if_pos (show (sfr x f u).kind = 3 from rfl), pick_sent I h]
    show (let x1 : SS := { nextX x f u with lost := addsL (gapS f u x.came) (dropS f u x.lost) }; if endedV (nextX x f u) (sfr x f u) && !(nextX x f u).fc then { x1 with fd := true } else x1) = _
    rw [eg]
  rw [ey] at hy
  simp only at hy
  subst hy
  split
  · exact ⟨core _ rfl rfl rfl rfl rfl rfl rfl, hma, rfl, rfl, rfl, rfl, rfl, rfl, rfl, rfl, rfl, rfl, rfl, rfl, rfl, rfl⟩
  · exact ⟨core _ rfl rfl rfl rfl rfl rfl rfl, hma, rfl, rfl, rfl, rfl, rfl, rfl, rfl, rfl, rfl, rfl, rfl, rfl, rfl, rfl⟩
/-! runs -/
theorem first_cons {m lo e : Int} : ∀ {l : List Run} {r : Run}, Nrm lo e l → firstR m l = some r → ∃ l', l = r :: l' ∧ r.1 < m
  | q :: l, r, ⟨a, b, c, d⟩, h => by
    unfold firstR at h
    split at h
    · cases h; exact ⟨l, rfl, by assumption⟩
    · rename_i hq
      obtain ⟨hr, hm⟩ := firstR_mem h
      have := d.low r hr
      omega
theorem first_none {m : Int} : ∀ {l : List Run}, firstR m l = none → ∀ q ∈ l, m ≤ q.1
  | [], _, q, hq => by cases hq
  | r :: l, h, q, hq => by
    unfold firstR at h
    split at h
    · cases h
    · rename_i hr
      rcases List.mem_cons.1 hq with rfl | hq
      · omega
      · exact first_none h q hq
theorem drop_head {lo e u : Int} {r : Run} {l : List Run} (h : Nrm lo e (r :: l)) (h0 : 0 ≤ r.1) (h1 : r.1 < u) (h2 : u ≤ r.2) (he : e ≤ 4611686018427387904) : dropS r.1 u (r :: l) = (if u < r.2 then [(u, r.2)] else []) ++ l := by
  have hn := h
  obtain ⟨a, b, c, d⟩ := h
  have nl := dropS_nrm (f := r.1) (t := u) hn
  have hr : Nrm lo e ((if u < r.2 then [(u, r.2)] else []) ++ l) := by
    split
    · exact ⟨by show lo < u; omega, by assumption, c, d⟩
    · exact Nrm.mono d (by omega) (Int.le_refl _)
  refine nrm_ext _ _ _ _ _ _ nl hr fun n => ?_
  rw [dropS_mem hn h0 (by omega) (by omega), mem_app, mem_cons]
  have one : mem (if u < r.2 then [(u, r.2)] else []) n ↔ u ≤ n ∧ n < r.2 := by
    by_cases h : u < r.2
    · rw [if_pos h, mem_cons, mem_nil]; simp
    · rw [if_neg h, mem_nil]; exact ⟨fun x => x.elim, fun x => by omega⟩
  rw [one]
  constructor
  · rintro ⟨g | g, hne⟩
    · exact .inl (by omega)
    · exact .inr g
  · rintro (g | g)
    · exact ⟨.inl (by omega), by omega⟩
    · have := d.bnd g
      exact ⟨.inr g, by omega⟩
/-- how many numbers below N hold -/
def cntP (p : Int → Bool) : Nat → Nat
  | 0 => 0
  | n + 1 => cntP p n + (if p n then 1 else 0)
theorem cntP_le (p : Int → Bool) : ∀ N, cntP p N ≤ N
  | 0 => Nat.le_refl _
  | n + 1 => by have := cntP_le p n; unfold cntP; split <;> omega
theorem cntP_mono {p q : Int → Bool} (h : ∀ n, q n = true → p n = true) : ∀ N, cntP q N ≤ cntP p N
  | 0 => Nat.le_refl _
  | n + 1 => by
    have := cntP_mono h n
    unfold cntP
    have h2 := h n
    cases hq : q n <;> cases hp : p n <;> simp_all <;> omega
theorem cntP_drop {p q : Int → Bool} {f u : Int} (hf : 0 ≤ f) (hfu : f ≤ u) (h1 : ∀ n, f ≤ n → n < u → p n = true ∧ q n = false) (h2 : ∀ n, ¬ (f ≤ n ∧ n < u) → q n = p n) : ∀ N : Nat, (cntP q N : Int) + (min u N - min f N) = cntP p N
  | 0 => by simp [cntP]; omega
  | n + 1 => by
    have ih := cntP_drop hf hfu h1 h2 n
    unfold cntP
    by_cases hr : f ≤ (n : Int) ∧ (n : Int) < u
    · obtain ⟨a, b⟩ := h1 n hr.1 hr.2
      rw [a, b]; simp only [if_true, Bool.false_eq_true, if_false]; omega
    · rw [h2 n hr]
      split <;> omega
end Go.Proofs.Ytaebjajbogedkaa.T
