/- Lemmas about the typed texts (joined: SRead5 LFrame1 LFrame2). -/
import Derived.Test.YthiccnmplgdheaaG17
/- Chapter 5's reader over the typed texts: frames read one behind the other. -/
set_option linter.unusedVariables false
set_option linter.unusedSimpArgs false
namespace Go.Proofs.Ythiccnmplgdheaa.T
open Go Go.Abs Go.Proofs
def pRead : Nat → List UInt8 → Int ⊕ List FV
  | _, [] => .inr []
  | 0, _ :: _ => .inl 3
  | n + 1, c :: t => match pFrame (c :: t) with
    | .inl e => .inl e
    | .inr (v, r) => match pRead n r with
      | .inl e => .inl e
      | .inr vs => .inr (v :: vs)
def consV (vs : List FV) : Int ⊕ List FV → Int ⊕ List FV
  | .inl e => .inl e
  | .inr us => .inr (vs ++ us)
theorem FRs.up {h h' : H} {b n : Nat} (u : UP (· = b) h h') (hb : b < n) : ∀ {xs : List F9} {vs : List FV}, (∀ x ∈ xs, Fr n x.2.2.2.2.2.2.2.1 ∧ Fr n x.2.2.2.2.2.2.2.2) → FRs h xs vs → FRs h' xs vs
  | [], [], _, _ => trivial
  | x :: xs, v :: vs, hn, r => ⟨⟨r.1.e, Rd.up r.1.data u (fun a ha e => by have := (hn x (by simp)).1 a ha; omega), Rd.up r.1.spans u (fun a ha e => by have := (hn x (by simp)).2 a ha; omega)⟩, FRs.up u hb (fun y hy => hn y (by simp [hy])) r.2⟩
  | [], _ :: _, _, r => r.elim
  | _ :: _, [], _, r => r.elim
def ReadQ (h1 : H) (a : Sl × Int) : Int ⊕ List FV → Prop
  | .inl e => a = (⟨none, 0, 0⟩, e)
  | .inr vs => (∃ xs, RdF h1 a.1 xs vs) ∧ a.2 = 0
theorem FRead_f {h : H} (w : WF h) {s : Sl} {l : List UInt8} (hr : RdB h s l) (hl : l.length ≤ 2 ^ 38) : PO (frame_Read s h) (fun (a, h1) => EX h h1 ∧ ReadQ h1 a (pRead l.length l)) := by
  unfold frame_Read
  refine PO.newB w fun g x0 B0 z0 w0 => ?_
  have hb : h.size < g.size := by omega
  have R0 : RdrA g h.size (.inr l) := ⟨by omega, s, B0, hr.ex x0⟩
  generalize hF : pRead l.length l = F
  refine PO.joinD (PO.mono (P := Sum.elim (fun a => (∃ xs vs, FRs a.2 xs vs ∧ Buf 9 a.2 a.1 (fsV xs) ∧ F = .inr vs ∧ vs.length ≤ l.length) ∧ UP (· = h.size) g a.2) (fun a => UP (· = h.size) g a.2 ∧ ∃ e, a.1 = (⟨none, 0, 0⟩, e) ∧ F = .inl e)) ?_ ?_)
  · refine PO.loop (fun m st => ∃ (l' : List UInt8) (out : Sl) (h' : H) (xs : List F9) (vs : List FV) (n : Nat), st = ((some ⟨h.size, 0, some 0⟩, out), h') ∧ m = l'.length ∧ RdrA h' h.size (.inr l') ∧ Buf 9 h' out (fsV xs) ∧ FRs h' xs vs ∧ (∀ x ∈ xs, Fr g.size x.2.2.2.2.2.2.2.1 ∧ Fr g.size x.2.2.2.2.2.2.2.2) ∧ Fr g.size out ∧ UP (· = h.size) g h' ∧ l'.length ≤ n ∧ F = consV vs (pRead n l') ∧ vs.length + l'.length ≤ l.length) ?_ l.length _ ⟨l, _, g, [], [], l.length, rfl, rfl, R0, buf_nil 9 g, trivial, by simp, fr_nil _, UP.refl w0, Nat.le_refl _, ?_, by simp⟩
    · rintro m st ⟨l', out, h', xs, vs, n, rfl, rfl, R, hbuf, hfr, hxs, hf, U, hn, hF', hvl⟩
      unfold P.frame_Read_l1
      have R' := R
      obtain ⟨hl', s', B', rd'⟩ := R
      have hsl := RdB.len rd'
      refine .ptr (.ldL B' rfl (.condD (fun c => ?_) (fun c => ?_)))
      · have hpos : 0 < l'.length := by have c' : ((s'.len : Nat) : Int) > 0 := c; omega
        refine PO.call (rframe_f U.wf R') fun x h1 ⟨⟨v, fv, V1⟩, R1, u1, fd, fs⟩ => ?_
        refine PO.boxF rfl u1.wf fun h3 x3 B3 z3 => ?_
        have R3 := R1.ex x3
        have U3 : UP (· = h.size) h' h3 := u1.ex x3
        have UU : UP (· = h.size) g h3 := U.trans U3 (fun A _ e => e)
        obtain ⟨n', hn'⟩ : ∃ n', n = n' + 1 := ⟨n - 1, by omega⟩
        subst hn'
        obtain ⟨cc, t, hct⟩ : ∃ cc t, l' = cc :: t := by
          cases l' with
          | nil => simp at hpos
          | cons cc t => exact ⟨cc, t, rfl⟩
        have hpr : pRead (n' + 1) l' = match pFrame l' with
            | .inl e => .inl e
            | .inr (v, r) => match pRead n' r with
              | .inl e => .inl e
              | .inr vs => .inr (v :: vs) := by subst hct; rfl
        cases hp : pFrame l' with
        | inl e =>
          rw [hp] at R3
          obtain ⟨he, l2, hl2, s2, B2, rd2⟩ := R3
          refine .ptr (.ldI B2 rfl (.condNE (fun _ => .ptr (.ldI B2 rfl (.retR ⟨UU, e, rfl, ?_⟩))) (fun hc => absurd hc he)))
          rw [hF', hpr, hp]; rfl
        | inr y =>
          obtain ⟨v', r⟩ := y
          have hv := V1 v' r hp
          subst hv
          rw [hp] at R3
          have R3' : RdrA h3 h.size (.inr r) := R3
          obtain ⟨hl2, s2, B2, rd2⟩ := R3
          refine .ptr (.ldI B2 rfl (.condNE (fun hc => absurd rfl hc) (fun _ => PO.ldF B3 ?_)))
          have b3 : Buf 9 h3 out (fsV xs) := Buf.up U.wf hbuf U3 (fun a ha e => by have := hf a ha; omega)
          have hfl := hfr.len
          have hlt := pFrame_lt hp
          refine PO.appF1 (n := g.size) x3.wf b3 (by rw [UU.nro]; exact w0.nro) UU.size hf (by omega) fun out1 h5 b5 u5 f5 k5 => .retL ⟨r.length, hlt, r, out1, h5, xs ++ [x], vs ++ [v'], n', rfl, rfl, R3'.kp k5 u5 hb, b5, ?_, ?_, f5, ?_, by omega, ?_, by simp; omega⟩
          · exact FRs.app ((hfr.up U3 hb hxs).kp k5) ⟨(fv.ex x3).kp k5, trivial⟩
          · intro q hq
            rcases List.mem_append.1 hq with hq | hq
            · exact hxs q hq
            · simp at hq; subst hq; exact ⟨fd.mono U.size, fs.mono U.size⟩
          · exact ⟨Nat.le_trans UU.size u5.size, u5.nro.trans UU.nro, u5.wf, fun A hA hn => (u5.same A (Nat.lt_of_lt_of_le hA UU.size) (by omega)).trans (UU.same A hA hn)⟩
          · rw [hF', hpr, hp]
            simp only
            cases pRead n' r with
            | inl e => rfl
            | inr us => simp [consV]
      · have hnil : l' = [] := List.eq_nil_of_length_eq_zero (by have c' : ¬ ((s'.len : Nat) : Int) > 0 := c; omega)
        subst hnil
        refine .retR ⟨⟨xs, vs, hfr, hbuf, ?_, by omega⟩, U⟩
        rw [hF']
        have : pRead n [] = .inr [] := by cases n <;> rfl
        rw [this]
        simp [consV]
    · rw [hF]
      cases F <;> simp [consV]
  · rintro (⟨out, h1⟩ | ⟨⟨a, e⟩, h1⟩) hp
    · obtain ⟨⟨xs, vs, hfr, hbuf, hF2, hvl⟩, U⟩ := hp
      have hfr' : FRs h1 xs vs := hfr
      have hbuf' : Buf 9 h1 out (fsV xs) := hbuf
      have U' : UP (· = h.size) g h1 := U
      have hol := hbuf'.rd.len
      rw [fsV_length] at hol
      have hxl := hfr'.len
      obtain ⟨s', e1, b1, _, _⟩ := clip_buf (by omega) (by unfold B63; omega) hbuf' (by unfold B63; omega)
      show PO (bind2 (slices_Clip_api_Frame_api_Frame out h1) _) _
      unfold slices_Clip_api_Frame_api_Frame
      refine PO.callE (a := s') (h1 := h1) (by rw [e1]; rfl) (.ret ⟨UP.ex0 U' x0 (fun A hA e => by omega), ?_⟩)
      rw [hF2]
      exact ⟨⟨xs, b1.rd, hfr'⟩, rfl⟩
    · obtain ⟨U, e', ee, hF2⟩ := hp
      simp only [Prod.mk.injEq] at ee
      obtain ⟨rfl, rfl⟩ := ee
      refine ⟨UP.ex0 U x0 (fun A hA e => by omega), ?_⟩
      rw [hF2]
      exact rfl
/-! what was laid is read; what is cut short is not -/
theorem pRead_fuel : ∀ (l : List UInt8) (n m : Nat), l.length ≤ n → l.length ≤ m → pRead n l = pRead m l := by
  intro l
  induction hk : l.length using Nat.strongRecOn generalizing l with
  | _ k ih =>
    intro n m hn hm
    cases l with
    | nil => cases n <;> cases m <;> rfl
    | cons c t =>
      simp only [List.length_cons] at hk
      obtain ⟨n', rfl⟩ : ∃ n', n = n' + 1 := ⟨n - 1, by omega⟩
      obtain ⟨m', rfl⟩ : ∃ m', m = m' + 1 := ⟨m - 1, by omega⟩
      simp only [pRead]
      cases hp : pFrame (c :: t) with
      | inl e => rfl
      | inr y =>
        obtain ⟨v, r⟩ := y
        have hlt := pFrame_lt hp
        simp only [List.length_cons] at hlt
        simp only
        rw [ih r.length (by omega) r rfl n' m' (by omega) (by omega)]
theorem lay1_pos {v : FV} (h : FR v) : 0 < (lay1 v).length := by
  have h1 := pFrame_rt h []
  have h2 := pFrame_lt h1
  simp only [List.append_nil, List.length_nil] at h2
  exact h2
theorem pRead_step {v : FV} (h : FR v) (x : List UInt8) {n : Nat} (hn : (lay1 v ++ x).length ≤ n) : pRead n (lay1 v ++ x) = match pRead x.length x with
    | .inl e => .inl e
    | .inr vs => .inr (bareV v :: vs) := by
  have h0 := lay1_pos h
  have h1 := pFrame_rt h x
  simp only [List.length_append] at hn
  obtain ⟨n', rfl⟩ : ∃ n', n = n' + 1 := ⟨n - 1, by omega⟩
  obtain ⟨c, t, hc⟩ : ∃ c t, lay1 v ++ x = c :: t := by
    cases hl : lay1 v ++ x with
    | nil => have := congrArg List.length hl; simp only [List.length_append, List.length_nil] at this; omega
    | cons c t => exact ⟨c, t, rfl⟩
  rw [hc] at h1 ⊢
  simp only [pRead, h1]
  rw [pRead_fuel x n' x.length (by omega) (Nat.le_refl _)]
theorem pRead_lay : ∀ {vs : List FV}, (∀ v ∈ vs, FR v) → pRead (layFs vs).length (layFs vs) = .inr (vs.map bareV)
  | [], _ => rfl
  | v :: vs, h => by
    simp only [layFs]
    rw [pRead_step (h v (by simp)) _ (Nat.le_refl _), pRead_lay (fun u hu => h u (by simp [hu]))]
    rfl
end Go.Proofs.Ythiccnmplgdheaa.T
/- The laws FrameBack and FrameCut over typed texts: what is laid is read the same; frames that are cut short are refused. -/
set_option linter.unusedVariables false
set_option linter.unusedSimpArgs false
namespace Go.Proofs.Ythiccnmplgdheaa.T
open Go Go.Abs Go.Proofs
def kv1 : FV := ⟨1, 0, 0, 0, 0, 0, false, [], []⟩
theorem szok_of {vs : List FV} (h : ∀ v ∈ vs, FR v) : SzOK vs := fun v hv => by
  have h1 := (h v hv).1.2.2.2
  refine ⟨by omega, ?_⟩
  have hs := (h v hv).1.2.1.2.2.2.2.2.2.2
  by_cases h2 : v.kind = 2
  · have := (h v hv).2
    unfold FR1 at this
    rw [if_pos h2] at this
    have := this.2.2
    omega
  · have : v.spans = [] := by
      rw [hs]
      unfold bareV
      rw [if_neg h2]
      (repeat' split) <;> rfl
    rw [this]; simp
end Go.Proofs.Ythiccnmplgdheaa.T
/- The law FrameBack over typed texts: what is laid is read the same, however many; laid in parts it is the same bytes; sizes add up. -/
set_option linter.unusedVariables false
set_option linter.unusedSimpArgs false
namespace Go.Proofs.Ythiccnmplgdheaa.T
open Go Go.Abs Go.Proofs
end Go.Proofs.Ythiccnmplgdheaa.T
