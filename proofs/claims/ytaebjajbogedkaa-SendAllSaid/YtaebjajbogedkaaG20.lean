/- Lemmas about the typed texts (joined: SSend6 SSend7 LSendF). -/
import Derived.Test.YtaebjajbogedkaaG19
import Derived.Test.YtaebjajbogedkaaG17
import Derived.Test.YtaebjajbogedkaaG13
import Derived.Test.YtaebjajbogedkaaG10
-- SEAT c
/- Chapter 13's stream over the typed texts: Write, Finish, sizes of frames, the chapter's example. -/
set_option linter.unusedVariables false
set_option linter.unusedSimpArgs false
namespace Go.Proofs.Ytaebjajbogedkaa.T
open Go Go.Abs Go.Proofs
theorem Write_f' {n0 : Nat} {h : H} (w : WF h) {p : Nat} {x : SS} {sb sl sc : Sl} (S : StrA n0 h p x sb sl sc) (bb : BufB h sb x.b) (fb : Fr (p + 1) sb) {bs : Sl} {l : List UInt8} (r : RdB h bs l) (hf : x.finished = false) (hr : x.reset = false) (hl : x.b.length + l.length ≤ 4000) :
    PO (send_Stream_Write (some ⟨p, 0, some 0⟩) bs h) (fun (a, h') => a = 0 ∧ (∃ sb', StrA n0 h' p { x with b := x.b ++ l } sb' sl sc ∧ BufB h' sb' (x.b ++ l) ∧ Fr (p + 1) sb' ∧ ∀ a', sb'.base = some a' → h.size ≤ a'.block ∨ ∃ a, sb.base = some a ∧ a.block = a'.block) ∧ ∃ h1, KP h h1 ∧ UP (fun A => p + 1 ≤ A) h h1 ∧ UP (fun A => ∃ a, sb.base = some a ∧ a.block = A) h h1 ∧ UP (· = p) h1 h') := by
  unfold send_Stream_Write
  refine PO.join (fun q => q = ((some ⟨p, 0, some 0⟩, (bs, false)), h)) ?_ ?_
  · refine PO.ptr (PO.ldB (i := 6) S.box rfl (PO.cond (fun hc => ?_) (fun hc => PO.ptr (PO.ldB (i := 7) S.box rfl (.retL ?_)))))
    · have hc : x.finished = true := hc
      rw [hf] at hc; cases hc
    · rw [hr]
  · rintro _ rfl
    dsimp only
    refine PO.condF (PO.ptr (PO.ldL (i := 3) S.box rfl (PO.letO ?_)))
    have hbl := RdB.len r
    rw [S.blen, hbl, decide_eq_false (by rw [w64 (by omega) (by omega)]; omega)]
    refine PO.condF (PO.ptr (PO.ldL (i := 3) S.box rfl ?_))
    obtain ⟨s', h1, e1, k1, x1, b1, _, f1⟩ := appB_ok (e := 5) w bb r (by omega)
    have hpb := S.box.blt
    have hpn := S.box.nro
    refine PO.callE e1 (PO.ptr ?_)
    have u1 : UP (fun A => p + 1 ≤ A) h h1 := up_of_ex w x1 k1 (by omega) hpb fb
    have B1 := S.box.up w u1 (by omega)
    have f1' : Fr (p + 1) s' := f1 _ hpb fb
    have n1 : ∀ a, s'.base = some a → a.block ≠ p := fun a ha e => by have := f1' a ha; omega
    refine PO.st1 B1 u1.wf (by simp [ssL]) rfl fun h2 B2 u2 z2 w2 => .ret ⟨rfl, ⟨s', ?_⟩, h1, k1, u1, up_app e1 k1, u2⟩
    have b2 : BufB h2 s' (x.b ++ l) := Buf.up u1.wf b1 u2 n1
    exact ⟨⟨B2, b2.rd, Rd.up (S.rl.mono k1) u2 S.nl, Rd.up (S.rc.mono k1) u2 S.nc, n1, S.nl, S.nc, S.p0⟩, b2, f1', appT_base e1⟩
theorem Write_f {n0 : Nat} {h : H} (w : WF h) {p : Nat} {x : SS} {sb sl sc : Sl} (S : StrA n0 h p x sb sl sc) (bb : BufB h sb x.b) (fb : Fr (p + 1) sb) {bs : Sl} {l : List UInt8} (r : RdB h bs l) (hf : x.finished = false) (hr : x.reset = false) (hl : x.b.length + l.length ≤ 4000) :
    PO (send_Stream_Write (some ⟨p, 0, some 0⟩) bs h) (fun (a, h') => a = 0 ∧ (∃ sb', StrA n0 h' p { x with b := x.b ++ l } sb' sl sc ∧ BufB h' sb' (x.b ++ l) ∧ Fr (p + 1) sb') ∧ ∃ h1, KP h h1 ∧ UP (fun A => p + 1 ≤ A) h h1 ∧ UP (· = p) h1 h') := by
  refine (Write_f' w S bb fb r hf hr hl).mono ?_
  rintro ⟨a, h'⟩ ⟨e, ⟨sb', S', b', f', _⟩, h1, k1, u1, _, u2⟩
  exact ⟨e, ⟨sb', S', b', f'⟩, h1, k1, u1, u2⟩
theorem Finish_f {n0 : Nat} {h : H} (w : WF h) {p : Nat} {x : SS} {sb sl sc : Sl} (S : StrA n0 h p x sb sl sc) (hf : x.finished = false) (hr : x.reset = false) :
    PO (send_Stream_Finish (some ⟨p, 0, some 0⟩) h) (fun (a, h') => a = 0 ∧ StrA n0 h' p { x with finished := true, fd := true } sb sl sc ∧ UP (· = p) h h') := by
  unfold send_Stream_Finish
  refine PO.join (fun q => q = ((some ⟨p, 0, some 0⟩, false), h)) ?_ ?_
  · refine PO.ptr (PO.ldB (i := 6) S.box rfl (PO.cond (fun hc => ?_) (fun hc => PO.ptr (PO.ldB (i := 7) S.box rfl (.retL ?_)))))
    · have hc : x.finished = true := hc
      rw [hf] at hc; cases hc
    · rw [hr]
  · rintro _ rfl
    simp only [add_add]
    exact PO.condF (PO.ptr (S.st w { x with finished := true } (i := 6) (by omega) rfl rfl rfl rfl rfl fun h1 S1 u1 w1 => PO.ptr (S1.st w1 { x with finished := true, fd := true } (i := 8 + 1) (by omega) rfl rfl rfl rfl rfl fun h2 S2 u2 w2 => .ret ⟨rfl, S2, u1.trans u2 fun _ _ e => e⟩)))
/-! sizes -/
theorem sfr_right {x : SS} (hid : okN x.id) (hbl : x.b.length ≤ 4000) {f u : Int} (h0 : 0 ≤ f) (h1 : f ≤ u) (h2 : u ≤ x.b.length) (h3 : u ≤ f + 120) : FR (sfr x f u) := by
  have hl := sfr_len (x := x) h0 h1 h2
  unfold okN at hid
  refine ⟨⟨⟨by show (1 : Int) ≤ 3; omega, by show (3 : Int) ≤ 12; omega⟩, ?_, ⟨hid, ?_, ?_, ?_⟩, by omega⟩, ?_⟩
  · have : bareV (sfr x f u) = sfr x f u := by unfold bareV sfr; simp
    rw [this]; exact sameV_refl _
  · show okN f; unfold okN; omega
  · show okN 0; unfold okN; omega
  · show okN 0; unfold okN; omega
  · unfold FR1
    rw [if_neg (show ¬ (sfr x f u).kind = 2 by show ¬ (3 : Int) = 2; omega), if_pos (show (sfr x f u).kind = 3 from rfl)]
    show f ≤ _; omega
theorem sfr_size {x : SS} (hid : okN x.id) (hbl : x.b.length ≤ 4000) {f u : Int} (h0 : 0 ≤ f) (h1 : f ≤ u) (h2 : u ≤ x.b.length) (h3 : u ≤ f + 120) : fszV (sfr x f u) = 2 + sz x.id + sz f + sz (u - f) + (u - f) := by
  have hl := sfr_len (x := x) h0 h1 h2
  unfold fszV
  rw [if_pos (sfr_right hid hbl h0 h1 h2 h3)]
  have e : numsV (sfr x f u) = [3, x.id, f, flagV (endsV x u), u - f] := by
    unfold numsV
    rw [if_neg (show ¬ (sfr x f u).kind = 2 by show ¬ (3 : Int) = 2; omega), if_pos (show (sfr x f u).kind = 3 from rfl), hl]; rfl
  unfold lay1
  rw [e]
  simp only [encs, List.length_append, enc_length, List.append_nil, List.length_nil]
  have h3' : sz 3 = 1 := by unfold sz; rw [if_pos (by omega)]
  have h4 : sz (flagV (endsV x u)) = 1 := by unfold sz flagV; rw [if_pos (by split <;> omega)]
  have := sz_pos x.id; have := sz_pos f; have := sz_pos (u - f)
  rw [h3', h4]
  omega
/-! chapter 13's example -/
theorem firstR_nil (m : Int) : firstR m [] = none := rfl
theorem ss0_ok {id : Int} : SOK (ss0 id) := ⟨⟨by simp [ss0], by simp [ss0], by simp [ss0]⟩, trivial, by simp [ss0], by simp [ss0]⟩
theorem known13_f {h : H} (w : WF h) : PO (law13_known h) (fun (a, h') => a = true ∧ EX h h') := by
  unfold law13_known P.law13_known
  refine PO.call (SNew_f w 4) ?_
  rintro _ h1 ⟨rfl, S1, x1⟩
  have hp1 := S1.box.blt
  let x3 : SS := { ss0 4 with b := [97, 98, 99], finished := true, fd := true }
  refine PO.join (fun q => ∃ (hh : H) (sb' : Sl), q = ((some ⟨h.size, 0, some 0⟩, false), hh) ∧ StrA h.size hh h.size x3 sb' ⟨none, 0, 0⟩ ⟨none, 0, 0⟩ ∧ EX h hh) ?_ ?_
  · refine PO.op (x := false) rfl (PO.condF (PO.newB x1.wf fun h2 x2 B2 z2 w2 => ?_))
    have bb : BufB h2 ⟨some ⟨h1.size, 0, some 0⟩, 3, 3⟩ [97, 98, 99] := B2.buf (l := vB [97, 98, 99]) w2 rfl (by unfold B63; omega)
    refine PO.callE (bbT_ok bb w2 (by simp) rfl (by simp [B63])) ?_
    have S2 := S1.kx x1.wf x2
    refine PO.call (Write_f w2 S2 (buf_nil 1 h2) (fun a ha => by simp at ha) bb.rd rfl rfl (by simp [ss0])) ?_
    rintro _ h3 ⟨rfl, ⟨sb3, S3, _, _⟩, g3, k3, u3, v3⟩
    have u3' : EX h h3 := v3.ex0 (u3.ex0 (x1.trans x2) fun A hA e => by omega) fun A hA e => by omega
    refine PO.condF ?_
    refine PO.call (Finish_f v3.wf S3 rfl rfl) ?_
    rintro _ h4 ⟨rfl, S4, u4⟩
    exact .retL ⟨h4, sb3, rfl, S4, u4.ex0 u3' fun A hA e => by omega⟩
  · rintro _ ⟨hh, sb', rfl, S, y⟩
    dsimp only
    refine PO.condF ?_
    have K : SOK x3 := ⟨⟨by show (0 : Int) ≤ 400 ∧ _; simp [x3, ss0], by simp [x3, ss0], by simp [x3]⟩, trivial, by simp [x3, ss0], by simp [x3, ss0]⟩
    refine PO.call (Next_f y.wf S K 99 99 (by omega)) ?_
    rintro ⟨⟨a1, a2, a3, a4, a5, a6, a7, a8, a9⟩, fresh, ok⟩ h5 ⟨u5, hq⟩
    have x5 : EX h h5 := u5.ex0 y fun A hA e => by omega
    have hfirst : firstR (mayS x3) x3.lost = none := rfl
    have hmay : mayS x3 = 3 := rfl
    have htop : topV x3 99 = 3 := by
      unfold topV leftV; rw [hmay]; simp [x3, ss0]; omega
    have hused : x3.used = 0 := rfl
    have hid : okN x3.id := by show okN 4; unfold okN; omega
    have hsz : ∀ u, 0 < u → u ≤ 3 → fszV (sfr x3 0 u) ≤ 9 := fun u h1 h2 => by
      rw [sfr_size hid (by simp [x3]) (by omega) (by omega) (by simp [x3]; omega) (by omega)]
      have e1 : sz x3.id = 1 := rfl
      have e2 : sz 0 = 1 := rfl
      have e3 : sz (u - 0) = 1 := by unfold sz; rw [if_pos (by omega)]
      rw [e1, e2, e3]; omega
    rcases hq with ⟨_, _, hn, _⟩ | ⟨e1, f, u, hp, e2, fa, sl', S5⟩
    · exfalso
      unfold NoPick at hn
      rw [hfirst] at hn
      simp only at hn
      rw [if_pos (by rw [htop, hused]; omega)] at hn
      have := hn 3 (by rw [hused]; omega) (by rw [htop]; omega) (by rw [hused]; omega)
      rw [hused] at this
      have := hsz 3 (by omega) (by omega)
      omega
    · have e1 : ok = true := e1
      have e2 : fresh = max 0 (u - 0) := e2
      unfold PickV at hp
      rw [hfirst] at hp
      simp only at hp
      rw [if_pos (by rw [htop, hused]; omega), htop, hused] at hp
      obtain ⟨rfl, g1, g2, g3, g4, g5⟩ := hp
      have hu3 : u = 3 := by
        rcases Int.lt_or_le u 3 with hlt | hge
        · have := g5 3 hlt (by omega) (by omega)
          have := hsz 3 (by omega) (by omega)
          omega
        · omega
      subst hu3
      have e2 : fresh = 3 := by omega
      subst e2
      subst e1
      obtain ⟨r1, r2, r3, r4, r5, r6, r7⟩ := fa.rd.e
      have r1 : a1 = 3 := r1
      have r2 : a2 = 4 := r2
      have r3 : a3 = 0 := r3
      have r7 : a7 = true := r7
      refine PO.boxF (x := (a1, a2, a3, a4, a5, a6, a7, a8, a9)) rfl x5.wf fun h6 x6 B6 z6 => ?_
      have S6 := S5.kx x5.wf x6
      have d6 : RdB h6 a8 [97, 98, 99] := RdB.ex x6 fa.rd.data
      have chkE : ∀ {a b : Int} {y z : Option (Bool × H)} {Q : Bool × H → Prop}, a = b → PO y Q → PO (condK (a == b) y z) Q := fun e k => by subst e; exact PO.condE (fun _ => k) fun h => absurd rfl h
      simp only [add_add]
      refine PO.condT (chkE rfl (PO.ldI (i := 0) B6 rfl (chkE r1 (PO.ldI (i := 1) B6 rfl (chkE r2 (PO.ldI (i := 2) B6 rfl (chkE r3 (PO.ldL (i := 7) B6 rfl (PO.callE (strT_ok d6) ?_)))))))))
      refine PO.chk' (by rw [show (⟨#[97, 98, 99]⟩ : ByteArray) = bsOf [97, 98, 99] from rfl, bs_eq]; exact decide_eq_true rfl) ?_
      refine PO.ldB (i := 6) B6 rfl (PO.chk' r7 (PO.ptr (PO.ldI (i := 0 + 1) S6.box rfl (chkE ?_ (PO.ptr (PO.ldI (i := 0 + 0) S6.box rfl (.ret ⟨rfl, x5.trans x6⟩)))))))
      rfl
end Go.Proofs.Ytaebjajbogedkaa.T
-- SEAT c
/- Chapter 13's stream over the typed texts: Acked, Done, Reset, Turn. -/
set_option linter.unusedVariables false
set_option linter.unusedSimpArgs false
namespace Go.Proofs.Ytaebjajbogedkaa.T
open Go Go.Abs Go.Proofs
def ackS (x : SS) (v : FV) : SS := if v.id ≠ x.id then x else
  if v.kind = 3 then (let x1 : SS := { x with came := addS (sentV x v).1 (sentV x v).2 x.came, lost := dropS (sentV x v).1 (sentV x v).2 x.lost }; if endedV x v then { x1 with fc := true, fd := false } else x1)
  else if v.kind = 4 ∧ x.reset = true ∧ v.b = x.sure ∧ x.tt = true then { x with tc := true, td := false } else x
section
variable {n0 : Nat} {h : H} {p : Nat} {x : SS} {sb sl sc : Sl} {f : F9} {v : FV}
theorem Acked_f (w : WF h) (S : StrA n0 h p x sb sl sc) (R : SRng x) (hl : x.lost.length ≤ 10000) (hc : x.came.length ≤ 10000) (hv : FSm v) (r : FHd f v) :
    PO (send_Stream_Acked (some ⟨p, 0, some 0⟩) f h) (fun (_, h') => ∃ sl' sc', StrA n0 h' p (ackS x v) sb sl' sc' ∧ UP (· = p) h h') := by
  obtain ⟨e1, e2, e3, e4, e5, e6, e7⟩ := r.e
  have el := r.len
  unfold send_Stream_Acked P.send_Stream_Acked ackS
  refine PO.newB (l := f9L f) w fun h1 x1 B1 z1 w1 => ?_
  have S1 := S.kx w x1
  simp only [add_add]
  refine PO.ldI (i := 1) B1 rfl (PO.ptr (PO.ldI (i := 2) S1.box rfl (PO.condNE (fun hne => .ret ⟨sl, sc, ?_, x1.up⟩) fun heq => ?_)))
  · rw [e2] at hne; rw [if_pos hne]; exact S1
  rw [e2] at heq
  rw [if_neg (by simp [heq])]
  have hpb := S.box.blt
  refine PO.ldI (i := 0) B1 rfl (PO.condE (fun h3 => ?_) fun h3 => ?_)
  · rw [e1] at h3
    rw [if_pos h3]
    refine PO.ldF B1 ?_
    refine PO.call (sent_f w1 S1 R hv e3 el) ?_
    rintro ⟨a, b⟩ h2 ⟨eab, x2⟩
    rw [← eab]
    simp only
    have S2 := S1.kx w1 x2
    have x12 := x1.trans x2
    refine PO.ptr (PO.call (Add_f x2.wf S2.came (by omega) a b) ?_)
    rintro _ h4 ⟨v4, T4, u4, z4⟩
    obtain ⟨sc4, S4⟩ := S2.setCame x2.wf T4 u4
    refine PO.ptr (PO.call (Drop_f u4.wf S4.lost (by show x.lost.length ≤ _; omega) a b) ?_)
    rintro _ h5 ⟨v5, T5, u5, z5⟩
    obtain ⟨sl5, S5⟩ := S4.setLost u4.wf T5 u5
    have u15 : UP (· = p) h h5 := (x12.trans_up u4).trans u5 fun _ _ e => e
    have B5 := ((B1.kx x2).up x2.wf u4 (by omega)).up u4.wf u5 (by omega)
    have R5 : SRng { x with came := addS a b x.came, lost := dropS a b x.lost } := ⟨R.l0, R.u0, R.bl⟩
    refine PO.ldF B5 ?_
    refine PO.call (ended_f u5.wf S5 R5 hv e3 e7 el) ?_
    rintro q h6 ⟨e6', x6⟩
    have e6' : q = endedV x v := e6'
    subst e6'
    have S6 := S5.kx u5.wf x6
    have u16 := u15.ex x6
    refine PO.cond (fun he => ?_) (fun he => .ret ⟨sl5, sc4, ?_, u16⟩)
    · rw [he]
      refine PO.ptr (S6.st u16.wf { x with came := addS a b x.came, lost := dropS a b x.lost, fc := true } (i := 8 + 2) (by omega) rfl rfl rfl rfl rfl fun h7 S7 u7 w7 => PO.ptr (S7.st w7 { x with came := addS a b x.came, lost := dropS a b x.lost, fc := true, fd := false } (i := 8 + 1) (by omega) rfl rfl rfl rfl rfl fun h8 S8 u8 w8 => .ret ⟨sl5, sc4, S8, (u16.trans u7 fun _ _ e => e).trans u8 fun _ _ e => e⟩))
    · rw [he]; exact S6
  · rw [e1] at h3
    rw [if_neg h3]
    refine PO.join (fun q => q = ((some ⟨p, 0, some 0⟩, decide (v.kind = 4 ∧ x.reset = true ∧ v.b = x.sure ∧ x.tt = true)), h1)) ?_ ?_
    · refine PO.ldI (i := 0) B1 rfl (PO.condE (fun h4 => ?_) fun h4 => .retL ?_)
      · rw [e1] at h4
        refine PO.ptr (PO.ldB (i := 7) S1.box rfl (PO.cond (fun hr => PO.ldI (i := 4) B1 rfl (PO.ptr (PO.ldI (i := 15) S1.box rfl (PO.condE (fun hb => PO.ptr (PO.ldB (i := 11 + 0) S1.box rfl (.retL ?_))) (fun hb => .retL ?_))))) (fun hr => .retL ?_)))
        · have hb : f.2.2.2.2.1 = x.sure := hb
          have hb' : v.b = x.sure := by rw [← e5]; exact hb
          have : decide (v.kind = 4 ∧ x.reset = true ∧ v.b = x.sure ∧ x.tt = true) = x.tt := by
            cases ht : x.tt with
            | true => exact decide_eq_true ⟨h4, hr, hb', rfl⟩
            | false => exact decide_eq_false fun g => by cases g.2.2.2
          rw [this]
        · rw [decide_eq_false (fun g => hb (by rw [← g.2.2.1]; exact e5))]
        · rw [decide_eq_false (fun g => by rw [g.2.1] at hr; cases hr)]
      · rw [e1] at h4
        rw [decide_eq_false (fun g => h4 g.1)]
    · rintro _ rfl
      dsimp only
      refine PO.condD (fun hc4 => ?_) (fun hc4 => .ret ⟨sl, sc, ?_, x1.up⟩)
      · rw [if_pos hc4]
        exact PO.ptr (S1.st w1 { x with tc := true } (i := 11 + 2) (by omega) rfl rfl rfl rfl rfl fun h7 S7 u7 w7 => PO.ptr (S7.st w7 { x with tc := true, td := false } (i := 11 + 1) (by omega) rfl rfl rfl rfl rfl fun h8 S8 u8 w8 => .ret ⟨sl, sc, S8, (x1.trans_up u7).trans u8 fun _ _ e => e⟩))
      · rw [if_neg hc4]; exact S1
def doneV (x : SS) : Bool := (x.finished && x.fc && decide (gapS 0 x.b.length x.came = [])) || (x.reset && x.tc && decide (gapS 0 x.sure x.came = []))
theorem Done_f (w : WF h) (S : StrA n0 h p x sb sl sc) (hc : x.came.length ≤ 10000) :
    PO (send_Stream_Done (some ⟨p, 0, some 0⟩) h) (fun (a, h') => a = doneV x ∧ EX h h') := by
  unfold send_Stream_Done P.send_Stream_Done doneV
  simp only [add_add]
  refine PO.join (fun q => ∃ hh, q = ((some ⟨p, 0, some 0⟩, (x.finished && x.fc && decide (gapS 0 x.b.length x.came = []))), hh) ∧ EX h hh) ?_ ?_
  · refine PO.ptr (PO.ldB (i := 6) S.box rfl (PO.cond (fun h1 => PO.ptr (PO.ldB (i := 8 + 2) S.box rfl (PO.cond (fun h2 => PO.ptr (PO.ptr (PO.ldL (i := 3) S.box rfl ?_))) (fun h2 => .retL ⟨h, ?_, EX.refl w⟩)))) (fun h1 => .retL ⟨h, ?_, EX.refl w⟩)))
    · rw [S.blen]
      refine PO.call (SAll_f w S.came (by omega) 0 (x.b.length : Int)) ?_
      rintro q h2' ⟨x2, e⟩
      have e : q = _ := e
      subst e
      refine .retL ⟨h2', ?_, x2⟩
      have h1 : x.finished = true := h1
      have h2 : x.fc = true := h2
      rw [h1, h2]; rfl
    · have h2 : x.fc = false := h2
      rw [h2, Bool.and_false]; rfl
    · have h1 : x.finished = false := h1
      rw [h1]; rfl
  · rintro _ ⟨hh, rfl, y⟩
    dsimp only
    have Sy := S.kx w y
    refine PO.cond (fun hd => .ret ⟨?_, y⟩) (fun hd => ?_)
    · rw [hd]; rfl
    · rw [hd, Bool.false_or]
      refine PO.ptr (PO.ldB (i := 7) Sy.box rfl (PO.cond (fun h1 => PO.ptr (PO.ldB (i := 11 + 2) Sy.box rfl (PO.cond (fun h2 => PO.ptr (PO.ptr (PO.ldI (i := 15) Sy.box rfl ?_))) (fun h2 => .ret ⟨?_, y⟩)))) (fun h1 => .ret ⟨?_, y⟩)))
      · refine PO.call (SAll_f y.wf Sy.came (by omega) 0 x.sure) ?_
        rintro q h2' ⟨x2, e⟩
        have e : q = _ := e
        subst e
        refine .ret ⟨?_, y.trans x2⟩
        have h1 : x.reset = true := h1
        have h2 : x.tc = true := h2
        rw [h1, h2]; rfl
      · have h2 : x.tc = false := h2
        rw [h2, Bool.and_false]; rfl
      · have h1 : x.reset = false := h1
        rw [h1]; rfl
def turnV (x : SS) : Bool := x.reset && x.td && decide (x.sure ≤ x.used)
def rfr (x : SS) : FV := ⟨4, x.id, x.used, x.code, x.sure, 0, false, [], []⟩
end
end Go.Proofs.Ytaebjajbogedkaa.T
-- SEAT c
/- The law SendFresh over the typed texts. -/
set_option linter.unusedVariables false
set_option linter.unusedSimpArgs false
namespace Go.Proofs.Ytaebjajbogedkaa.T
open Go Go.Abs Go.Proofs
/-! rows as slices of calls, frames -/
theorem PO.boxZ {α : Type} {Q : α → Prop} {h : H} {zs : List Z} {x : ZT zs} {t : Nat} {L : List Value} {f : Nat → H → Option α} (hl : zs.length = L.length) (hn : noAny zs = true) (w : WF h) (p : ∀ h2, EX h h2 → Box h2 h.size (encL zs x) → PO (f h.size h2) Q) :
    PO (newO (row t L) h fun (b : Nat) (h1 : H) => bindO (Abs.stZ zs h1 ⟨b, 0, some 0⟩ x) fun (h2 : H) => f b h2) Q := by
  refine PO.newB w fun h1 x1 B1 z1 w1 => ?_
  refine PO.stZ (zs := zs) (x := x) B1 w1 hl hn fun h2 B2 u2 z2 w2 => ?_
  exact p h2 (u2.ex0 x1 fun A hA e => by omega) B2
def zD4 : List Z := [.int .i64, .int .i64, .int .i64, .int .i64, .sl]
theorem PO.ixD4 {α : Type} {Q : α → Prop} {h : H} {s : Sl} {xs : List F5} {j : Int} {g : Addr → Option α} (r : Rd 5 h s (csD4 xs)) (h0 : 0 ≤ j) (h1 : j < xs.length)
    (p : ∀ a x, xs[j.toNat]? = some x → Abs.ldZ zD4 h a = some x → PO (g a) Q) : PO (bindO (ixT 5 s j) g) Q := by
  have hl := r.len
  rw [csD4_length] at hl
  obtain ⟨a, ha, e⟩ := ixT_ok r h0 (by omega)
  have hj : j.toNat < xs.length := by omega
  have hx : xs[j.toNat]? = some xs[j.toNat] := List.getElem?_eq_getElem hj
  have hc : ∀ q, q < 5 → ∀ v, (f5L xs[j.toNat])[q]? = some v → ldCell h (add (add a (j.toNat * 5)) q) = some v := by
    intro q hq v hv
    rw [add_add]
    refine (r.ld a ha _ v ?_).2
    rw [csD4_get _ _ _ hq, hx]; exact hv
  refine .op e (p _ _ hx (ldZ_of (zs := zD4) ?_))
  exact ldCells_of (f5L xs[j.toNat]) _ fun i v hi => hc i (List.getElem?_eq_some_iff.1 hi).1 v hi
theorem PO.ixFs {α : Type} {Q : α → Prop} {h : H} {s : Sl} {fs : List F9} {j : Int} {g : Addr → Option α} (r : Rd 9 h s (fsV fs)) (h0 : 0 ≤ j) (h1 : j < fs.length)
    (p : ∀ a x, x ∈ fs → Abs.ldZ zF h a = some x → PO (g a) Q) : PO (bindO (ixT 9 s j) g) Q := by
  have hl := r.len
  rw [fsV_length] at hl
  obtain ⟨a, ha, e⟩ := ixT_ok r h0 (by omega)
  have hj : j.toNat < fs.length := by omega
  refine .op e (p _ (fs.getD j.toNat f90) (getD_mem _ _ hj) (r.ldZat ha _ zF _ ?_))
  exact fsV_get fs j.toNat hj
theorem brg_id' {n : Int} (h : 0 ≤ n ∧ n ≤ 4611686018427387904) : brg n = n := by unfold brg; omega
/-! the pure invariant -/
structure FInv (x : SS) (N : Nat) : Prop where
  ok : SOK x
  id : x.id = 3
  len : x.b.length = N
  fin : x.finished = false
  rst : x.reset = false
  came : x.came = []
  ul : x.used ≤ x.limit
structure FOK (x : SS) (v : FV) : Prop where
  k : v.kind = 3
  id : v.id = 3
  fin : v.fin = false
  off : 0 ≤ v.off
  d1 : 1 ≤ v.data.length
  d2 : v.data.length ≤ 4000
  to : v.off + v.data.length ≤ x.used
theorem FOK.sm {x : SS} {N : Nat} (I : FInv x N) {v : FV} (f : FOK x v) : FSm v := ⟨by have := f.off; have := f.to; have := I.ok.rng.u0; omega, by have := f.d2; omega⟩
theorem FOK.mono {x y : SS} {v : FV} (f : FOK x v) (h : x.used ≤ y.used) : FOK y v := ⟨f.k, f.id, f.fin, f.off, f.d1, f.d2, Int.le_trans f.to h⟩
theorem FInv.raise {x : SS} {N : Nat} (I : FInv x N) (n : Int) : FInv (raiseV n x) N ∧ (raiseV n x).used = x.used := by
  unfold raiseV
  split
  · exact ⟨I, rfl⟩
  · rename_i h
    have := I.ok.rng.l0
    exact ⟨⟨⟨⟨by show 0 ≤ n ∧ n ≤ _; omega, I.ok.rng.u0, I.ok.rng.bl⟩, I.ok.nrl, I.ok.sure, I.ok.ub⟩, I.id, I.len, I.fin, I.rst, I.came, by show x.used ≤ n; have := I.ul; omega⟩, rfl⟩
theorem addS_nrm {l : List Run} {e f t : Int} (h : Nrm (-1) e l) (he : e ≤ 4611686018427387904) (hf : 0 ≤ f) (ht : t ≤ e) : Nrm (-1) e (addS f t l) := by
  unfold addS
  split
  · rename_i hlt
    have h1 : brg f = f := by unfold brg at hlt ⊢; omega
    have h2 : brg t = t := by unfold brg at hlt ⊢; omega
    rw [h1, h2] at hlt ⊢
    exact addR_nrm _ _ _ _ _ h (by omega) hlt ht
  · exact h
theorem dropS_nrm {l : List Run} {lo e f t : Int} (h : Nrm lo e l) : Nrm lo e (dropS f t l) := by
  unfold dropS
  split
  · exact dropR_nrm _ _ _ _ _ h (by assumption)
  · exact h
theorem FInv.lost {x : SS} {N : Nat} (I : FInv x N) {v : FV} (f : FOK x v) : FInv (lostS x v) N ∧ (lostS x v).used = x.used := by
  have hu := I.ok.rng.u0
  have := f.to; have := f.off; have := f.d1
  have e1 : sentV x v = (v.off, v.off + v.data.length) := by
    unfold sentV; rw [if_neg (by omega)]; congr 1; omega
  have hv2 : v.off + v.data.length ≤ 4611686018427387903 := by omega
  have e2 : gapS v.off (v.off + v.data.length) x.came = [(v.off, v.off + v.data.length)] := by
    unfold gapS; rw [I.came, brg_id' (n := v.off) ⟨f.off, by omega⟩, brg_id' (n := v.off + v.data.length) ⟨by omega, by omega⟩, gapR, if_pos (show v.off < v.off + (v.data.length : Int) by omega)]
  have e3 : endedV x v = false := by unfold endedV; rw [f.fin]; rfl
  have e4 : lostS x v = { x with lost := addS v.off (v.off + v.data.length) x.lost } := by
    unfold lostS
    rw [if_neg (by rw [f.id, I.id]; simp), if_pos f.k, e1, e2, e3]; rfl
  rw [e4]
  have hnr : Nrm (-1) x.used (addS v.off (v.off + v.data.length) x.lost) := addS_nrm I.ok.nrl (by omega) (by omega) (by omega)
  exact ⟨⟨⟨⟨I.ok.rng.l0, I.ok.rng.u0, I.ok.rng.bl⟩, hnr, I.ok.sure, I.ok.ub⟩, I.id, I.len, I.fin, I.rst, I.came, I.ul⟩, rfl⟩
theorem FInv.next {x : SS} {N : Nat} (I : FInv x N) {room most f u : Int} (h : PickV x room most f u) : FInv (nextX x f u) N ∧ FOK (nextX x f u) (sfr x f u) ∧ f < u := by
  have P := h.picked I.ok
  have hu := I.ok.rng.u0; have hl := I.ok.rng.l0; have hbl := I.ok.rng.bl
  have hends : ∀ t, endsV x t = false := fun t => by unfold endsV; rw [I.fin]; rfl
  have hfu : f < u := by
    rcases P.len with h | ⟨_, _, _, h, _⟩
    · exact h
    · rw [hends] at h; cases h
  have hfr := P.fresh
  have hub := P.ub
  have hf0 := P.f0
  have hlen := sfr_len (x := x) P.f0 P.fu P.ub
  have hnrl : Nrm (-1) (max x.used u) (dropS f u x.lost) := (dropS_nrm I.ok.nrl).mono (Int.le_refl _) (by omega)
  have hxu := I.ok.ub
  have hul := I.ul
  have hused : max x.used u ≤ x.limit := by unfold leftV at hfr; omega
  refine ⟨⟨⟨⟨hl, ⟨by show 0 ≤ max x.used u; omega, by show max x.used u ≤ 4611686018427387903; omega⟩, hbl⟩, hnrl, I.ok.sure, by show max x.used u ≤ (x.b.length : Int); omega⟩, I.id, I.len, I.fin, I.rst, I.came, hused⟩, ⟨rfl, I.id, hends u, hf0, by omega, by omega, ?_⟩, hfu⟩
  show f + _ ≤ max x.used u
  omega
/-! the calls -/
structure FI (h0 hh : H) (p N : Nat) (x : SS) (sent : Sl) (m : Nat) : Prop where
  ex : EX h0 hh
  str : ∃ sb sl sc, StrA h0.size hh p x sb sl sc
  inv : FInv x N
  sent : ∃ fs : List F9, Buf 9 hh sent (fsV fs) ∧ Fr (p + 1) sent ∧ fs.length ≤ m ∧ ∀ f ∈ fs, ∃ v, FHd f v ∧ FOK x v
theorem FI.kx {h0 hh h1 : H} {p N m : Nat} {x : SS} {sent : Sl} (T : FI h0 hh p N x sent m) (y : EX hh h1) : FI h0 h1 p N x sent m := by
  obtain ⟨sb, sl, sc, S⟩ := T.str
  obtain ⟨fs, b, f, l, g⟩ := T.sent
  exact ⟨T.ex.trans y, ⟨sb, sl, sc, S.kx T.ex.wf y⟩, T.inv, fs, b.ex T.ex.wf y, f, l, g⟩
theorem FI.upd {h0 hh h1 : H} {p N m : Nat} {x y : SS} {sent : Sl} (T : FI h0 hh p N x sent m) (u : UP (· = p) hh h1) (S : ∃ sb sl sc, StrA h0.size h1 p y sb sl sc) (I : FInv y N) (hu : x.used ≤ y.used) : FI h0 h1 p N y sent m := by
  obtain ⟨fs, b, f, l, g⟩ := T.sent
  obtain ⟨_, _, _, A⟩ := T.str
  refine ⟨u.ex0 T.ex fun B hB e => by have := A.p0; omega, S, I, fs, Buf.up T.ex.wf b u fun a ha e => ?_, f, l, fun q hq => let ⟨v, h1, h2⟩ := g q hq; ⟨v, h1, h2.mono hu⟩⟩
  have := f a ha; have e : a.block = p := e; omega
end Go.Proofs.Ytaebjajbogedkaa.T
