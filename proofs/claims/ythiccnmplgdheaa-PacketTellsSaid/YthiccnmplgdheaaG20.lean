/- Lemmas about the typed texts (joined: SRead5 SRR1 SRR2). -/
import Derived.Test.YthiccnmplgdheaaG19
import Derived.Test.YthiccnmplgdheaaG18
import Derived.Test.YthiccnmplgdheaaG13
import Derived.Test.YthiccnmplgdheaaG10
set_option linter.unusedVariables false
set_option linter.unusedSimpArgs false
namespace Go.Proofs.Ythiccnmplgdheaa.T
open Go Go.Abs Go.Proofs
def pRead : Nat -> List UInt8 -> Int ⊕ List FV
  | _, [] => .inr []
  | 0, _ :: _ => .inl 3
  | n + 1, c :: t => match pFrame (c :: t) with
    | .inl e => .inl e
    | .inr (v, r) => match pRead n r with
      | .inl e => .inl e
      | .inr vs => .inr (v :: vs)
def consV (vs : List FV) : Int ⊕ List FV -> Int ⊕ List FV
  | .inl e => .inl e
  | .inr us => .inr (vs ++ us)
theorem FRs.up {h h' : H} {b n : Nat} (u : UP (· = b) h h') (hb : b < n) : ∀ {xs : List F9} {vs : List FV}, (∀ x ∈ xs, Fr n x.2.2.2.2.2.2.2.1 /\ Fr n x.2.2.2.2.2.2.2.2) -> FRs h xs vs -> FRs h' xs vs
  | [], [], _, _ => trivial
  | x :: xs, v :: vs, hn, r => ⟨⟨r.1.e, Rd.up r.1.data u (fun a ha e => by have := (hn x (by simp)).1 a ha; omega), Rd.up r.1.spans u (fun a ha e => by have := (hn x (by simp)).2 a ha; omega)⟩, FRs.up u hb (fun y hy => hn y (by simp [hy])) r.2⟩
  | [], _ :: _, _, r => r.elim
  | _ :: _, [], _, r => r.elim
def ReadQ (h1 : H) (a : Sl × Int) : Int ⊕ List FV -> Prop
  | .inl e => a = (⟨none, 0, 0⟩, e)
  | .inr vs => (∃ xs, RdF h1 a.1 xs vs) /\ a.2 = 0
theorem FRead_f {h : H} (w : WF h) {s : Sl} {l : List UInt8} (hr : RdB h s l) (hl : l.length <= 2 ^ 38) : PO (frame_Read s h) (fun (a, h1) => EX h h1 /\ ReadQ h1 a (pRead l.length l)) := by
  unfold frame_Read
  refine PO.newB w fun g x0 B0 z0 w0 => ?_
  have hb : h.size < g.size := by omega
  have R0 : RdrA g h.size (.inr l) := ⟨by omega, s, B0, hr.ex x0⟩
  generalize hF : pRead l.length l = F
  refine PO.joinD (PO.mono (P := Sum.elim (fun a => (∃ xs vs, FRs a.2 xs vs /\ Buf 9 a.2 a.1 (fsV xs) /\ F = .inr vs /\ vs.length <= l.length) /\ UP (· = h.size) g a.2) (fun a => UP (· = h.size) g a.2 /\ ∃ e, a.1 = (⟨none, 0, 0⟩, e) /\ F = .inl e)) ?_ ?_)
  · refine PO.loop (fun m st => ∃ (l' : List UInt8) (out : Sl) (h' : H) (xs : List F9) (vs : List FV) (n : Nat), st = ((some ⟨h.size, 0, some 0⟩, out), h') /\ m = l'.length /\ RdrA h' h.size (.inr l') /\ Buf 9 h' out (fsV xs) /\ FRs h' xs vs /\ (∀ x ∈ xs, Fr g.size x.2.2.2.2.2.2.2.1 /\ Fr g.size x.2.2.2.2.2.2.2.2) /\ Fr g.size out /\ UP (· = h.size) g h' /\ l'.length <= n /\ F = consV vs (pRead n l') /\ vs.length + l'.length <= l.length) ?_ l.length _ ⟨l, _, g, [], [], l.length, rfl, rfl, R0, buf_nil 9 g, trivial, by simp, fr_nil _, UP.refl w0, Nat.le_refl _, ?_, by simp⟩
    · rintro m st ⟨l', out, h', xs, vs, n, rfl, rfl, R, hbuf, hfr, hxs, hf, U, hn, hF', hvl⟩
      unfold P.frame_Read_l1
      have R' := R
      obtain ⟨hl', s', B', rd'⟩ := R
      have hsl := RdB.len rd'
      refine .ptr (.ldL B' rfl (.condD (fun c => ?_) (fun c => ?_)))
      · have hpos : 0 < l'.length := by have c' : ((s'.len : Nat) : Int) > 0 := c; omega
        refine PO.call (rframe_f U.wf R') fun x h1 ⟨⟨v, fv, V1⟩, R1, u1, fd, fs⟩ => ?_
        refine PO.boxF rfl u1.wf fun h3 x3 B3 z3 => ?_
        have R3 := R1.ex x3
        have U3 : UP (· = h.size) h' h3 := u1.ex x3
        have UU : UP (· = h.size) g h3 := U.trans U3 (fun A _ e => e)
        obtain ⟨n', hn'⟩ : ∃ n', n = n' + 1 := ⟨n - 1, by omega⟩
        subst hn'
        obtain ⟨cc, t, hct⟩ : ∃ cc t, l' = cc :: t := by
          cases l' with
          | nil => simp at hpos
          | cons cc t => exact ⟨cc, t, rfl⟩
        have hpr : pRead (n' + 1) l' = match pFrame l' with
            | .inl e => .inl e
            | .inr (v, r) => match pRead n' r with
              | .inl e => .inl e
              | .inr vs => .inr (v :: vs) := by subst hct; rfl
        cases hp : pFrame l' with
        | inl e =>
          rw [hp] at R3
          obtain ⟨he, l2, hl2, s2, B2, rd2⟩ := R3
          refine .ptr (.ldI B2 rfl (.condNE (fun _ => .ptr (.ldI B2 rfl (.retR ⟨UU, e, rfl, ?_⟩))) (fun hc => absurd hc he)))
          rw [hF', hpr, hp]; rfl
        | inr y =>
          obtain ⟨v', r⟩ := y
          have hv := V1 v' r hp
          subst hv
          rw [hp] at R3
          have R3' : RdrA h3 h.size (.inr r) := R3
          obtain ⟨hl2, s2, B2, rd2⟩ := R3
          refine .ptr (.ldI B2 rfl (.condNE (fun hc => absurd rfl hc) (fun _ => PO.ldF B3 ?_)))
          have b3 : Buf 9 h3 out (fsV xs) := Buf.up U.wf hbuf U3 (fun a ha e => by have := hf a ha; omega)
          have hfl := hfr.len
          have hlt := pFrame_lt hp
          refine PO.appF1 (n := g.size) x3.wf b3 (by rw [UU.nro]; exact w0.nro) UU.size hf (by omega) fun out1 h5 b5 u5 f5 k5 => .retL ⟨r.length, hlt, r, out1, h5, xs ++ [x], vs ++ [v'], n', rfl, rfl, R3'.kp k5 u5 hb, b5, ?_, ?_, f5, ?_, by omega, ?_, by simp; omega⟩
          · exact FRs.app ((hfr.up U3 hb hxs).kp k5) ⟨(fv.ex x3).kp k5, trivial⟩
          · intro q hq
            rcases List.mem_append.1 hq with hq | hq
            · exact hxs q hq
            · simp at hq; subst hq; exact ⟨fd.mono U.size, fs.mono U.size⟩
          · exact ⟨Nat.le_trans UU.size u5.size, u5.nro.trans UU.nro, u5.wf, fun A hA hn => (u5.same A (Nat.lt_of_lt_of_le hA UU.size) (by omega)).trans (UU.same A hA hn), u5.st.trans UU.st⟩
          · rw [hF', hpr, hp]
            simp only
            cases pRead n' r with
            | inl e => rfl
            | inr us => simp [consV]
      · have hnil : l' = [] := List.eq_nil_of_length_eq_zero (by have c' : ¬ ((s'.len : Nat) : Int) > 0 := c; omega)
        subst hnil
        refine .retR ⟨⟨xs, vs, hfr, hbuf, ?_, by omega⟩, U⟩
        rw [hF']
        have : pRead n [] = .inr [] := by cases n <;> rfl
        rw [this]
        simp [consV]
    · rw [hF]
      cases F <;> simp [consV]
  · rintro (⟨out, h1⟩ | ⟨⟨a, e⟩, h1⟩) hp
    · obtain ⟨⟨xs, vs, hfr, hbuf, hF2, hvl⟩, U⟩ := hp
      have hfr' : FRs h1 xs vs := hfr
      have hbuf' : Buf 9 h1 out (fsV xs) := hbuf
      have U' : UP (· = h.size) g h1 := U
      have hol := hbuf'.rd.len
      rw [fsV_length] at hol
      have hxl := hfr'.len
      obtain ⟨s', e1, b1, _, _⟩ := clip_buf (by omega) (by unfold B63; omega) hbuf' (by unfold B63; omega)
      show PO (bind2 (slices_Clip_api_Frame_api_Frame out h1) _) _
      unfold slices_Clip_api_Frame_api_Frame
      refine PO.callE (a := s') (h1 := h1) (by rw [e1]; rfl) (.ret ⟨UP.ex0 U' x0 (fun A hA e => by omega), ?_⟩)
      rw [hF2]
      exact ⟨⟨xs, b1.rd, hfr'⟩, rfl⟩
    · obtain ⟨U, e', ee, hF2⟩ := hp
      simp only [Prod.mk.injEq] at ee
      obtain ⟨rfl, rfl⟩ := ee
      refine ⟨UP.ex0 U x0 (fun A hA e => by omega), ?_⟩
      rw [hF2]
      exact rfl
theorem RTake_po {h : H} {b : Sl} {l : List UInt8} (w : WF h) (hr : RdB h b l) (hl : l.length <= 2 ^ 47) : PO (ref1_Take b h) (fun (a, h1) => a.1 = (tk l).1 /\ a.2.2 = (tk l).2.2 /\ RdB h1 a.2.1 (tk l).2.1 /\ EX h h1) := by
  obtain ⟨r, h', e, x, rr⟩ := RTake_f w hr hl
  exact ⟨_, e, rfl, rfl, rr, x⟩
theorem pT1_tk (l : List UInt8) : pT 1 l = if (tk l).2.2 = 0 then .inr ([(tk l).1], (tk l).2.1) else .inl 3 := by
  unfold pT
  simp only [tks]
  split <;> rename_i h <;> split at h <;> simp_all
theorem RData_f {h : H} (w : WF h) {b : Sl} {l : List UInt8} (hr : RdB h b l) (hl : l.length <= 2 ^ 38) :
    PO (ref1_data b h) (fun (a, h1) => EX h h1 /\ match pData l with | .inr (d, r) => a.2.2 = 0 /\ RdB h1 a.1 d /\ RdB h1 a.2.1 r | .inl _ => a.2.2 ≠ 0) := by
  unfold ref1_data P.ref1_data
  refine PO.call (RTake_po w hr (by omega)) fun a h0 ⟨e1, e2, r0, x0⟩ => ?_
  obtain ⟨a1, a2, a3⟩ := a
  simp only at e1 e2 r0 x0
  subst e1 e2
  have hlt := tk_lt l
  unfold pData
  rw [pT1_tk]
  refine .condNE (fun hne => .ret ⟨x0, ?_⟩) (fun he => ?_)
  · rw [if_neg hne]; exact hne
  rw [if_pos he]
  have hrl := RdB.len r0
  have hl2 := hlt he
  refine .condD (fun c => .ret ⟨x0, ?_⟩) (fun c => ?_)
  · simp only [List.getD_cons_zero, if_pos c]; show (2 : Int) ≠ 0; decide
  refine .condD (fun c2 => .ret ⟨x0, ?_⟩) (fun c2 => ?_)
  · simp only [List.getD_cons_zero, if_neg c]
    rw [if_pos (by omega)]; show (3 : Int) ≠ 0; decide
  have hn0 : 0 <= (tk l).1 := (tk_ok l).1
  simp only [List.getD_cons_zero, if_neg c]
  rw [if_neg (show ¬ (tk l).1 > ((tk l).2.1.length : Int) by omega)]
  generalize (tk l).1 = n at *
  generalize (tk l).2.1 = rest at *
  have hnz := x0.wf.nro
  refine PO.letGrow x0.wf fun g1 x1 z1 w1 n1 => .addOff (by decide) (.addNil ?_)
  have r1 := RdB.ex x1 r0
  obtain ⟨s3, e3, r3⟩ := slB_hi r1 hn0 (by omega)
  refine .op e3 (PO.addNew (vs := []) w1 (by decide) (n1 0 (by omega)) (by omega) (by rw [x1.nro]; omega) fun g2 N2 B2 => .addNil ?_)
  have b2 : BufB g2 ⟨some ⟨h0.size + 0, 0, some 0⟩, 0, 0⟩ [] := Box.buf (sz := 1) (n := 0) B2 N2.wf rfl (by unfold B63; omega)
  have r23 : RdB g2 s3 (rest.take n.toNat) := NW.kr N2 r3
  have htl : (rest.take n.toNat).length <= 120 := by simp; omega
  obtain ⟨s4, g4, e4, k4, x4, b4, _, f4⟩ := appB_ok (e := 5) N2.wf b2 r23 (by simp; omega)
  have y2 : EX h0 g2 := N2.ex0 x1 (by omega)
  have y4 : EX h0 g4 := x4 h0 y2 (fun a ha => by cases ha; exact Nat.le_refl _)
  refine .callE e4 (.addOff (by decide) (.addNil ?_))
  have r4 := RdB.ex y4 r0
  obtain ⟨s5, e5, r5, _, v5, _⟩ := sl_lo (sz := 1) (lo := n) (by omega) (by unfold B63; omega) r4 hn0 (by rw [hrl]; omega)
  obtain ⟨s6, e6, r6, _, v6, _⟩ := sl_lo (sz := 1) (lo := n) (by omega) (by unfold B63; omega) r1 hn0 (by rw [hrl]; omega)
  have h56 : s6 = s5 := v6.trans v5.symm
  subst h56
  refine .op e5 (.addOff (by decide) (.addNil (.op e6 (.chk (slEq_self s6) (.addOld (k4.som _ B2.ne) (.addNil (PO.letTick y4.wf fun g5 x5 z5 w5 => .ret ⟨x0.trans (y4.trans x5), rfl, ?_, ?_⟩)))))))
  · have := RdB.ex x5 b4.rd
    rwa [List.nil_append] at this
  · have q := Rd.ex x5 r5
    rw [Nat.mul_one] at q
    show Rd 1 g5 s6 (vB (rest.drop n.toNat))
    unfold vB at q ⊢
    rw [List.map_drop]; exact q
def SpA (R : Int ⊕ (List Run × List UInt8)) (h : H) (q : (Sl × Sl) × H) : Prop := ∃ d r, R = .inr (d, r) /\ EX h q.2 /\ RdR q.2 q.1.2 d /\ RdB q.2 q.1.1 r /\ Fr h.size q.1.2
def SpB (R : Int ⊕ (List Run × List UInt8)) (h : H) (q : (Sl × Sl × Int) × H) : Prop := (∃ e, R = .inl e) /\ q.1.2.2 ≠ 0 /\ EX h q.2
theorem rspans_loop {h : H} (w : WF h) {b : Sl} {l : List UInt8} (hr : RdB h b l) (hl : l.length <= 2 ^ 38) {N : Nat} (hN : N <= 8) {R : Int ⊕ (List Run × List UInt8)} (hR0 : R = spK N none l) :
    PO (loopO ref1_spans_l1 (((N : Int), (b, ((⟨none, 0, 0⟩ : Sl), (0, 0)))), h)) (Sum.elim (SpA R h) (SpB R h)) := by
  refine PO.loop (fun m st => ∃ (i : Nat) (rest out : Sl) (low : Int) (acc : List Run) (l' : List UInt8) (h' : H), st = (((N : Int), (rest, (out, (low, (i : Int))))), h') /\ m + i = N /\ R = cons' acc (spK (N - i) (if i = 0 then none else some low) l') /\ EX h h' /\ RdB h' rest l' /\ BufR h' out acc /\ Fr h.size out /\ acc.length = i /\ okN low /\ l'.length <= 2 ^ 38) ?_ N _ ⟨0, b, ⟨none, 0, 0⟩, 0, [], l, h, rfl, rfl, ?_, EX.refl w, hr, buf_nil 2 h, fr_nil _, rfl, ok0, hl⟩
  rotate_left
  · subst hR0
    cases hh : spK N none l <;> simp [cons', hh]
  clear hR0
  rintro m st ⟨i, rest, out, low, acc, l', h', rfl, hm, hR, hx, hb, ho, hf, ha, hlo, hll⟩
  unfold ref1_spans_l1 P.ref1_spans_l1
  refine .condD (fun hlt => ?_) (fun hge => ?_)
  rotate_left
  · have : i = N := by omega
    subst this
    rw [Nat.sub_self] at hR
    exact .retR ⟨acc, l', by rw [hR]; simp [spK, cons'], hx, ho.rd, hb, hf⟩
  refine PO.call (RTake_po hx.wf hb (by omega)) fun a h1 ⟨e1, e2, r1, x1⟩ => ?_
  obtain ⟨a1, a2, a3⟩ := a
  simp only at e1 e2 r1 x1
  subst e1 e2
  have hx1 := hx.trans x1
  obtain ⟨k, hk⟩ : ∃ k, N - i = k + 1 := ⟨N - i - 1, by omega⟩
  rw [hk] at hR
  unfold spK at hR
  rw [pT1_tk] at hR
  refine .condNE (fun hne => .retR ⟨?_, hne, hx1⟩) (fun he => ?_)
  · rw [hR, if_neg hne]; exact ⟨_, rfl⟩
  rw [if_pos he] at hR
  simp only [List.getD_cons_zero] at hR
  have hok1 := tk_ok l'
  have hlt1 := tk_lt l' he
  generalize (tk l').1 = v1 at *
  generalize (tk l').2.1 = t1 at *
  unfold okN at hlo hok1
  refine PO.join (fun st => ∃ last : Int, st = (((N : Int), (out, ((i : Int), (a2, last)))), h1) /\ last = lastV (if i = 0 then none else some low) v1 /\ badP (if i = 0 then none else some low) v1 = false /\ 0 <= last /\ last <= 4611686018427387903) ?_ ?_
  · refine .condD (fun c => ?_) (fun c => .retL ⟨v1, rfl, ?_⟩)
    · have hi0 : ¬ i = 0 := by omega
      rw [if_neg hi0] at hR ⊢
      rw [w64 (n := low - v1) (by omega) (by omega)]
      refine PO.join (fun st => st = (((N : Int), (out, ((i : Int), (a2, (low - v1, badP (some low) v1))))), h1)) ?_ ?_
      · refine .condD (fun c2 => .retL ?_) (fun c2 => .retL ?_)
        · have : badP (some low) v1 = true := by unfold badP; simp [c2]
          rw [this]
        · have : decide (low - v1 < 0) = badP (some low) v1 := by show _ = (decide (v1 < 2) || decide (v1 > low)); rw [decide_eq_false c2, Bool.false_or]; exact decide_eq_decide.2 (by omega)
          rw [this]
      · rintro _ rfl
        refine .cond (fun cb => ?_) (fun cb => ?_)
        · refine .retR ⟨?_, (by decide : (2 : Int) ≠ 0), hx1⟩
          rw [hR, if_pos cb]; exact ⟨_, rfl⟩
        · have cb' := cb
          unfold badP at cb'
          simp at cb'
          exact .retL ⟨low - v1, rfl, rfl, cb, by omega, by omega⟩
    · have hi0 : i = 0 := by omega
      rw [if_pos hi0]
      exact ⟨rfl, rfl, by omega, by omega⟩
  rintro _ ⟨last, rfl, hla, hbad, hl0, hl1⟩
  rw [hbad, <- hla, pT1_tk] at hR
  simp only [Bool.false_eq_true, if_false] at hR
  dsimp only
  refine PO.call (RTake_po hx1.wf r1 (by omega)) fun a h2 ⟨e1, e2, r2, x2⟩ => ?_
  obtain ⟨b1, b2, b3⟩ := a
  simp only at e1 e2 r2 x2
  subst e1 e2
  have hx2 := hx1.trans x2
  refine .condNE (fun hne => .retR ⟨?_, hne, hx2⟩) (fun he2 => ?_)
  · rw [hR, if_neg hne]; exact ⟨_, rfl⟩
  rw [if_pos he2] at hR
  simp only [List.getD_cons_zero] at hR
  have hok2 := tk_ok t1
  have hlt2 := tk_lt t1 he2
  generalize (tk t1).1 = v2 at *
  generalize (tk t1).2.1 = t2 at *
  unfold okN at hok2
  rw [w64 (n := last - v2) (by omega) (by omega)]
  refine .condD (fun c => .retR ⟨?_, (by decide : (2 : Int) ≠ 0), hx2⟩) (fun c => ?_)
  · rw [hR, if_pos (by omega)]; exact ⟨_, rfl⟩
  rw [if_neg (by omega)] at hR
  refine .appR1 ((Buf.ex hx.wf x1 ho).ex hx1.wf x2) hx2 hf (by omega) fun out1 h3 b3 x3 f3 k3 => .retL ⟨m - 1, by omega, i + 1, b2, out1, last - v2, acc ++ [(last - v2, last)], t2, h3, ?_, by omega, ?_, x3, RdB.mono r2 ?_, b3, f3, by simp [ha], ?_, by omega⟩
  · rw [w64 (n := (i : Int) + 1) (by omega) (by omega)]; rfl
  · rw [hR, if_neg (show ¬ i + 1 = 0 by omega), show N - (i + 1) = k by omega]
    cases spK k (some (last - v2)) t2 with
    | inl e => rfl
    | inr q => obtain ⟨q, r3⟩ := q; simp [cons']
  · exact k3
  · unfold okN; omega
theorem RSpans_f {h : H} (w : WF h) {b : Sl} {l : List UInt8} (hr : RdB h b l) (hl : l.length <= 2 ^ 38) :
    PO (ref1_spans b h) (fun (a, h1) => EX h h1 /\ match pSpans l with | .inr (d, r) => a.2.2 = 0 /\ RdR h1 a.1 d /\ RdB h1 a.2.1 r /\ Fr h.size a.1 | .inl _ => a.2.2 ≠ 0) := by
  unfold ref1_spans P.ref1_spans
  refine PO.call (RTake_po w hr (by omega)) fun a h0 ⟨e1, e2, r0, x0⟩ => ?_
  obtain ⟨a1, a2, a3⟩ := a
  simp only at e1 e2 r0 x0
  subst e1 e2
  have hlt := tk_lt l
  unfold pSpans
  rw [pT1_tk]
  refine .condNE (fun hne => .ret ⟨x0, ?_⟩) (fun he => ?_)
  · rw [if_neg hne]; exact hne
  rw [if_pos he]
  have hl2 := hlt he
  have hok := tk_ok l
  simp only [List.getD_cons_zero]
  generalize (tk l).1 = n at *
  generalize (tk l).2.1 = t at *
  unfold okN at hok
  refine PO.join (fun st => st = ((n, (a2, decide (n < 1 \/ n > 8))), h0)) ?_ ?_
  · refine .condD (fun c => .retL ?_) (fun c => .retL ?_)
    · rw [decide_eq_true (.inl c)]
    · have : decide (n > 8) = decide (n < 1 \/ n > 8) := decide_eq_decide.2 (by omega)
      rw [this]
  rintro _ rfl
  refine .condD (fun c => .ret ⟨x0, ?_⟩) (fun c => ?_)
  · rw [if_pos c]; show (2 : Int) ≠ 0; decide
  rw [if_neg c]
  have hq := rspans_loop x0.wf r0 (by omega) (N := n.toNat) (by omega) rfl
  rw [show ((n.toNat : Nat) : Int) = n by omega] at hq
  refine PO.joinD (hq.mono ?_)
  rintro (⟨⟨rest, out⟩, h2⟩ | ⟨⟨s, t', e⟩, h2⟩) hp
  · obtain ⟨d, r, e, x2, rd, rr, ff⟩ := hp
    refine .ret ⟨x0.trans x2, ?_⟩
    rw [e]; exact ⟨rfl, rd, rr, ff.mono x0.size⟩
  · obtain ⟨⟨e', he'⟩, hne, x2⟩ := hp
    refine ⟨x0.trans x2, ?_⟩
    rw [he']; exact hne
end Go.Proofs.Ythiccnmplgdheaa.T
