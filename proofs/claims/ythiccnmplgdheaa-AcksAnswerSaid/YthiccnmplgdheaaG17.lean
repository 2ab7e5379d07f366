/- Lemmas about the typed texts (joined: SRead3 SRead4 SRead5). -/
import Derived.Test.YthiccnmplgdheaaG16
/- Chapter 5's reader over the typed texts: a frame. -/
set_option linter.unusedVariables false
set_option linter.unusedSimpArgs false
namespace Go.Proofs.Ythiccnmplgdheaa.T
open Go Go.Abs Go.Proofs
def bindP {α β : Type} (p : RP α) (f : α → RP β) : RP β := fun l => match p l with
  | .inl e => .inl e
  | .inr (a, r) => f a r
def retP {α : Type} (a : α) : RP α := fun l => .inr (a, l)
theorem stp_bind {α β : Type} {st : RSt} {p : RP α} {a : α} (f : α → RP β) (V : isV (stp st p) a) : stp st (bindP p f) = stp (stO (stp st p)) (f a) := by
  cases st with
  | inl e => rfl
  | inr l =>
    simp only [stp, bindP]
    cases hp : p l with
    | inl e => rfl
    | inr x =>
      obtain ⟨y, r⟩ := x
      have := V y r hp
      subst this
      rfl
theorem stp_ret {α : Type} (st : RSt) (a : α) : stO (stp st (retP a)) = st ∧ isV (stp st (retP a)) a := by
  cases st with
  | inl e => exact ⟨rfl, fun x l e => by simp [stp] at e⟩
  | inr l => exact ⟨rfl, fun x l e => by simp [stp, retP] at e; exact e.1.symm⟩
def finF (v : FV) : RP FV := fun l => if FR v then .inr (v, l) else .inl 2
def rawP (k : Int) : RP FV :=
  if k = 2 then bindP pSpans fun s => retP ⟨k, 0, 0, 0, 0, 0, false, [], s⟩
  else if k = 3 then bindP (pT 2) fun ns => bindP pFlag fun fl => bindP pData fun d => retP ⟨k, ns.getD 0 0, ns.getD 1 0, 0, 0, 0, fl, d, []⟩
  else if k = 4 then bindP (pT 4) fun ns => retP ⟨k, ns.getD 0 0, ns.getD 2 0, ns.getD 1 0, ns.getD 3 0, 0, false, [], []⟩
  else if k = 5 ∨ k = 7 then bindP (pT 2) fun ns => retP ⟨k, ns.getD 0 0, 0, ns.getD 1 0, 0, 0, false, [], []⟩
  else if k = 6 ∨ k = 12 then bindP (pT 1) fun ns => retP ⟨k, 0, 0, ns.getD 0 0, 0, 0, false, [], []⟩
  else if k = 8 then bindP (pT 1) fun ns => bindP pFlag fun fl => retP ⟨k, 0, 0, ns.getD 0 0, 0, 0, fl, [], []⟩
  else if k = 9 then bindP pData fun d => retP ⟨k, 0, 0, 0, 0, 0, false, d, []⟩
  else if k = 10 ∨ k = 11 then bindP (pT 1) fun ns => retP ⟨k, ns.getD 0 0, 0, 0, 0, 0, false, [], []⟩
  else retP ⟨k, 0, 0, 0, 0, 0, false, [], []⟩
def pFrame : RP FV := bindP (pT 1) fun ns => bindP (rawP (ns.getD 0 0)) finF
theorem noU8_f9 (y : F9) : noU8 (f9L y) := by
  intro v hv n
  simp only [f9L, List.mem_cons, List.not_mem_nil, or_false] at hv
  rcases hv with rfl | rfl | rfl | rfl | rfl | rfl | rfl | rfl | rfl <;> simp
theorem PO.takeF {α : Type} {Q : α → Prop} {h : H} {b t n : Nat} {y : F9} {st : RSt} {g : Unit → H → Option α} (ks : List Nat) (hn : ks.length = n) (hn9 : n ≤ 9) (w : WF h) (R : RdrA h b st) (T : Box h t (f9L y)) (hI : ∀ k ∈ ks, IntAt (f9L y) k) (hbt : ¬ b = t)
    (p : ∀ ns h1, ns.length = n → (∀ x ∈ ns, okN x) → Box h1 t (setAll (f9L y) ks ns) → RdrA h1 b (stO (stp st (pT n))) → isV (stp st (pT n)) ns → UP (fun A => A = b ∨ A = t) h h1 → PO (g () h1) Q) :
    PO (newO (row 171 ((ks.map fun k => some (⟨t, 0 + k, some 0⟩ : Addr)).map .pointer)) h fun q h2 => bind2 (frame_reader_take (some ⟨b, 0, some 0⟩) ⟨some ⟨q, 0, some 0⟩, n, n⟩ h2) g) Q := by
  refine PO.newB w fun h2 x2 B2 z2 w2 => ?_
  have hT := T.blt
  have hb := R.blt
  refine PO.call (take_f (n := n) hbt (by omega) (by omega) ks hn hn9 n 0 h2 (f9L y) st (by omega) w2 (R.ex x2) (Box.kx x2 T) (noU8_f9 y) hI B2) fun _ h1 ⟨ns, g1, g2, g3, g4, g5, g6⟩ => ?_
  exact p ns h1 g1 g2 g3 g4 g5 (x2.trans_up g6)
/-- a frame that is being read -/
structure FB (h0 : H) (b t : Nat) (st : RSt) (h : H) (y : F9) (v : FV) : Prop where
  up : UP (· = b) h0 h
  box : Box h t (f9L y)
  rdr : RdrA h b st
  frd : FRd h y v
  fd : Fr (t + 1) y.2.2.2.2.2.2.2.1
  fs : Fr (t + 1) y.2.2.2.2.2.2.2.2
  ld : v.data.length ≤ 120
  ls : v.spans.length ≤ 9
def FJ (h0 : H) (b t rb : Nat) (F : Int ⊕ (FV × List UInt8)) (s : (Option Addr × Option Addr × Option Addr) × H) : Prop :=
  s.1 = (some ⟨b, 0, some 0⟩, some ⟨rb, 0, some 0⟩, some ⟨t, 0, some 0⟩) ∧ ∃ y v, FB h0 b t (stO F) s.2 y v ∧ isV F v
/-- what is written into the frame that is being read -/
theorem FB.st {α : Type} {Q : α → Prop} {h0 h : H} {b t i : Nat} {st : RSt} {y : F9} {v : FV} {x : Value} {f : H → Option α} (B : FB h0 b t st h y v) (hb : b < h0.size) (ht : h0.size ≤ t) (hi : i < 9) (ho : oneC x = true)
    (p : ∀ h1, Box h1 t ((f9L y).set i x) → RdrA h1 b st → UP (· = b) h0 h1 → UP (· = t) h h1 → PO (f h1) Q) : PO (bindO (Abs.st1 h (add ⟨t, 0, some 0⟩ i) x) f) Q :=
  PO.st1 B.box B.up.wf (by simpa using hi) ho fun h1 B1 u1 z1 w1 => p h1 B1 (B.rdr.up B.up.wf B.box (noU8_f9 y) (by omega) u1)
    ⟨Nat.le_trans B.up.size u1.size, u1.nro.trans B.up.nro, w1, fun A hA hn => (u1.same A (Nat.lt_of_lt_of_le hA B.up.size) (by omega)).trans (B.up.same A hA hn)⟩ u1
theorem FB.frdU {h0 h h1 : H} {b t : Nat} {st : RSt} {y : F9} {v : FV} (B : FB h0 b t st h y v) (hb : b < t) (u : UP (fun A => A = b ∨ A = t) h h1) : RdB h1 y.2.2.2.2.2.2.2.1 v.data ∧ RdR h1 y.2.2.2.2.2.2.2.2 v.spans :=
  ⟨Rd.up B.frd.data u (fun a ha e => by have := B.fd a ha; omega), Rd.up B.frd.spans u (fun a ha e => by have := B.fs a ha; omega)⟩
theorem FB.upU {h0 h h1 : H} {b t : Nat} {st : RSt} {y : F9} {v : FV} (B : FB h0 b t st h y v) (ht : h0.size ≤ t) (u : UP (fun A => A = b ∨ A = t) h h1) : UP (· = b) h0 h1 :=
  ⟨Nat.le_trans B.up.size u.size, u.nro.trans B.up.nro, u.wf, fun A hA hn => (u.same A (Nat.lt_of_lt_of_le hA B.up.size) (by omega)).trans (B.up.same A hA hn)⟩
theorem fjOut {h0 h : H} {b t rb : Nat} {F : Int ⊕ (FV × List UInt8)} {st : RSt} {y : F9} {v : FV} (B : FB h0 b t st h y v) (hF : stO F = st) (V : isV F v) : FJ h0 b t rb F ((some ⟨b, 0, some 0⟩, some ⟨rb, 0, some 0⟩, some ⟨t, 0, some 0⟩), h) := ⟨rfl, y, v, hF ▸ B, V⟩
theorem retOut {st st' : RSt} {p : RP FV} {v : FV} (h : stp st p = stp st' (retP v)) : stO (stp st p) = st' ∧ isV (stp st p) v := by rw [h]; exact stp_ret st' v
theorem leafI {α : Type} {Q : α → Prop} {h0 h : H} {b t rb n : Nat} {k : Int} {st : RSt} {y0 : F9} {v0 : FV} (B : FB h0 b t st h y0 v0) (hb : b < h0.size) (ht : h0.size ≤ t) (ks : List Nat) (hn : ks.length = n) (hn9 : n ≤ 9) (hI : ∀ k ∈ ks, IntAt (f9L y0) k) (yy : List Int → F9) (mk : List Int → FV)
    (hraw : rawP k = bindP (pT n) fun ns => retP (mk ns)) (hset : ∀ ns : List Int, ns.length = n → setAll (f9L y0) ks ns = f9L (yy ns)) (hfr : ∀ ns h, FRd h (yy ns) (mk ns) ∧ Fr (t + 1) (yy ns).2.2.2.2.2.2.2.1 ∧ Fr (t + 1) (yy ns).2.2.2.2.2.2.2.2 ∧ (mk ns).data.length ≤ 120 ∧ (mk ns).spans.length ≤ 9) :
    PO (newO (row 171 ((ks.map fun k => some (⟨t, 0 + k, some 0⟩ : Addr)).map .pointer)) h fun q h2 => bind2 (frame_reader_take (some ⟨b, 0, some 0⟩) ⟨some ⟨q, 0, some 0⟩, n, n⟩ h2) fun _ h1 => some (Sum.inl ((some ⟨b, 0, some 0⟩, some ⟨rb, 0, some 0⟩, some ⟨t, 0, some 0⟩), h1))) (Sum.elim (FJ h0 b t rb (stp st (rawP k))) Q) := by
  refine PO.takeF ks hn hn9 B.up.wf B.rdr B.box hI (by omega) fun ns h5 hl hok T5 R5 V5 u5 => ?_
  rw [hset ns hl] at T5
  obtain ⟨f1, f2, f3, f4, f5⟩ := hfr ns h5
  obtain ⟨o1, o2⟩ := retOut (p := rawP k) (v := mk ns) (by rw [hraw]; exact stp_bind _ V5)
  exact .retL (fjOut ⟨B.upU ht u5, T5, R5, f1, f2, f3, f4, f5⟩ o1 o2)
theorem rframe_f {h : H} {b : Nat} {l : List UInt8} (w : WF h) (R : RdrA h b (.inr l)) : PO (frame_reader_frame (some ⟨b, 0, some 0⟩) h) (fun (x, h1) => (∃ v, FRd h1 x v ∧ isV (pFrame l) v) ∧ RdrA h1 b (stO (pFrame l)) ∧ UP (· = b) h h1 ∧ Fr h.size x.2.2.2.2.2.2.2.1 ∧ Fr h.size x.2.2.2.2.2.2.2.2) := by
  unfold frame_reader_frame
  have hb := R.blt
  refine PO.newB w fun g0 x0 B0 z0 w0 => PO.newB w0 fun g1 x1 B1 z1 w1 => ?_
  have hne : ¬ b = g0.size := by omega
  refine PO.takeF (y := f90) [0] rfl (by omega) w1 ((R.ex x0).ex x1) B1 (by intro k hk; simp at hk; subst hk; exact ⟨0, rfl, ok0⟩) hne fun ns h3 hns hok T3 R3 V3 u3 => ?_
  obtain ⟨k, rfl⟩ : ∃ k, ns = [k] := by
    match ns, hns with
    | [k], _ => exact ⟨k, rfl⟩
  generalize hs3 : stO (stp (.inr l) (pT 1)) = s3 at R3
  have T3' : Box h3 g0.size (f9L (k, 0, 0, 0, 0, 0, false, ⟨none, 0, 0⟩, ⟨none, 0, 0⟩)) := T3
  have U3 : UP (· = b) g0 h3 := (x1.trans_up u3).mono (fun A hA e => by
    rcases e with e | e
    · exact e
    · exact absurd hA (by rw [e]; exact Nat.lt_irrefl _))
  have F3 : FB g0 b g0.size s3 h3 (k, 0, 0, 0, 0, 0, false, ⟨none, 0, 0⟩, ⟨none, 0, 0⟩) ⟨k, 0, 0, 0, 0, 0, false, [], []⟩ := ⟨U3, T3', R3, ⟨⟨rfl, rfl, rfl, rfl, rfl, rfl, rfl⟩, rdB_nil _, rdR_nil _⟩, fr_nil _, fr_nil _, by simp, by simp⟩
  have hb0 : b < g0.size := by omega
  have hle : g0.size ≤ g0.size := Nat.le_refl _
  have hraw : stp (.inr l) (bindP (pT 1) fun ns => bindP (rawP (ns.getD 0 0)) finF) = stp s3 (bindP (rawP k) finF) := by rw [stp_bind _ V3, hs3]; rfl
  refine PO.join (FJ g0 b g0.size h.size (stp s3 (rawP k))) ?_ ?_
  · refine .ldI T3' rfl ?_
    repeat' (refine .condE (fun e => ?_) (fun e => ?_))
    all_goals dsimp only at *
    all_goals (try (exfalso; omega))
    · refine PO.call (rspans_f U3.wf R3) fun a h4 ⟨⟨d, rd, hd, V4⟩, R4, u4, f4⟩ => ?_
      have B4 : FB g0 b g0.size _ h4 (k, 0, 0, 0, 0, 0, false, ⟨none, 0, 0⟩, ⟨none, 0, 0⟩) ⟨k, 0, 0, 0, 0, 0, false, [], []⟩ := ⟨U3.trans u4 (fun A _ e => e), Box.ku u4 (fun e => hne e.symm) T3', R4, ⟨⟨rfl, rfl, rfl, rfl, rfl, rfl, rfl⟩, rdB_nil _, rdR_nil _⟩, fr_nil _, fr_nil _, by simp, by simp⟩
      refine B4.st hb0 hle (by omega) rfl fun h5 T5 R5 U5 u5 => ?_
      have T5' : Box h5 g0.size (f9L (k, 0, 0, 0, 0, 0, false, ⟨none, 0, 0⟩, a)) := T5
      have hfa : Fr (g0.size + 1) a := f4.mono T3'.blt
      obtain ⟨o1, o2⟩ := retOut (p := rawP k) (v := ⟨k, 0, 0, 0, 0, 0, false, [], d⟩) (by unfold rawP; rw [if_pos e]; exact stp_bind _ V4)
      exact .retL (fjOut (v := ⟨k, 0, 0, 0, 0, 0, false, [], d⟩) ⟨U5, T5', R5, ⟨⟨rfl, rfl, rfl, rfl, rfl, rfl, rfl⟩, rdB_nil _, Rd.up rd u5 (fun p hp => by have := hfa p hp; omega)⟩, fr_nil _, hfa, by simp, hd⟩ o1 o2)
    · refine PO.takeF [1, 2] rfl (by omega) U3.wf R3 T3' (by intro j hj; simp at hj; rcases hj with rfl | rfl <;> exact ⟨0, rfl, ok0⟩) hne fun ns h5 hl hok T5 R5 V5 u5 => ?_
      obtain ⟨a, c, rfl⟩ : ∃ a c, ns = [a, c] := by
        match ns, hl with
        | [a, c], _ => exact ⟨a, c, rfl⟩
      have T5' : Box h5 g0.size (f9L (k, a, c, 0, 0, 0, false, ⟨none, 0, 0⟩, ⟨none, 0, 0⟩)) := T5
      have U5 := F3.upU hle u5
      refine PO.call (rflag_f U5.wf R5) fun fl h6 ⟨R6, V6, u6⟩ => ?_
      have B6 : FB g0 b g0.size _ h6 (k, a, c, 0, 0, 0, false, ⟨none, 0, 0⟩, ⟨none, 0, 0⟩) ⟨k, a, c, 0, 0, 0, false, [], []⟩ := ⟨U5.trans u6 (fun A _ e => e), Box.ku u6 (fun e => hne e.symm) T5', R6, ⟨⟨rfl, rfl, rfl, rfl, rfl, rfl, rfl⟩, rdB_nil _, rdR_nil _⟩, fr_nil _, fr_nil _, by simp, by simp⟩
      refine B6.st hb0 hle (by omega) rfl fun h7 T7 R7 U7 u7 => ?_
      have T7' : Box h7 g0.size (f9L (k, a, c, 0, 0, 0, fl, ⟨none, 0, 0⟩, ⟨none, 0, 0⟩)) := T7
      refine PO.call (rdata_f U7.wf R7) fun s8 h8 ⟨⟨d, rd, hd, V8⟩, R8, u8, f8⟩ => ?_
      have B8 : FB g0 b g0.size _ h8 (k, a, c, 0, 0, 0, fl, ⟨none, 0, 0⟩, ⟨none, 0, 0⟩) ⟨k, a, c, 0, 0, 0, fl, [], []⟩ := ⟨U7.trans u8 (fun A _ e => e), Box.ku u8 (fun e => hne e.symm) T7', R8, ⟨⟨rfl, rfl, rfl, rfl, rfl, rfl, rfl⟩, rdB_nil _, rdR_nil _⟩, fr_nil _, fr_nil _, by simp, by simp⟩
      refine B8.st hb0 hle (by omega) rfl fun h9 T9 R9 U9 u9 => ?_
      have T9' : Box h9 g0.size (f9L (k, a, c, 0, 0, 0, fl, s8, ⟨none, 0, 0⟩)) := T9
      have hfa : Fr (g0.size + 1) s8 := f8.mono T7'.blt
      obtain ⟨o1, o2⟩ := retOut (p := rawP k) (v := ⟨k, a, c, 0, 0, 0, fl, d, []⟩) (by
        unfold rawP
        rw [if_neg (by omega), if_pos (by assumption), stp_bind _ V5]
        exact (stp_bind _ V6).trans (stp_bind _ V8))
      exact .retL (fjOut (v := ⟨k, a, c, 0, 0, 0, fl, d, []⟩) ⟨U9, T9', R9, ⟨⟨rfl, rfl, rfl, rfl, rfl, rfl, rfl⟩, Rd.up rd u9 (fun p hp => by have := hfa p hp; omega), rdR_nil _⟩, hfa, fr_nil _, hd, by simp⟩ o1 o2)
    · exact leafI F3 hb0 hle [1, 3, 2, 4] rfl (by omega) (by intro j hj; simp at hj; rcases hj with rfl | rfl | rfl | rfl <;> exact ⟨0, rfl, ok0⟩) (fun ns => (k, ns.getD 0 0, ns.getD 2 0, ns.getD 1 0, ns.getD 3 0, 0, false, ⟨none, 0, 0⟩, ⟨none, 0, 0⟩)) (fun ns => ⟨k, ns.getD 0 0, ns.getD 2 0, ns.getD 1 0, ns.getD 3 0, 0, false, [], []⟩) (by unfold rawP; rw [if_neg (by omega), if_neg (by omega), if_pos (by omega)]) (by intro ns hl; match ns, hl with | [_, _, _, _], _ => rfl) (fun ns h => ⟨⟨⟨rfl, rfl, rfl, rfl, rfl, rfl, rfl⟩, rdB_nil _, rdR_nil _⟩, fr_nil _, fr_nil _, by simp, by simp⟩)
    · exact leafI F3 hb0 hle [1, 3] rfl (by omega) (by intro j hj; simp at hj; rcases hj with rfl | rfl <;> exact ⟨0, rfl, ok0⟩) (fun ns => (k, ns.getD 0 0, 0, ns.getD 1 0, 0, 0, false, ⟨none, 0, 0⟩, ⟨none, 0, 0⟩)) (fun ns => ⟨k, ns.getD 0 0, 0, ns.getD 1 0, 0, 0, false, [], []⟩) (by unfold rawP; rw [if_neg (by omega), if_neg (by omega), if_neg (by omega), if_pos (by omega)]) (by intro ns hl; match ns, hl with | [_, _], _ => rfl) (fun ns h => ⟨⟨⟨rfl, rfl, rfl, rfl, rfl, rfl, rfl⟩, rdB_nil _, rdR_nil _⟩, fr_nil _, fr_nil _, by simp, by simp⟩)
    · exact leafI F3 hb0 hle [1, 3] rfl (by omega) (by intro j hj; simp at hj; rcases hj with rfl | rfl <;> exact ⟨0, rfl, ok0⟩) (fun ns => (k, ns.getD 0 0, 0, ns.getD 1 0, 0, 0, false, ⟨none, 0, 0⟩, ⟨none, 0, 0⟩)) (fun ns => ⟨k, ns.getD 0 0, 0, ns.getD 1 0, 0, 0, false, [], []⟩) (by unfold rawP; rw [if_neg (by omega), if_neg (by omega), if_neg (by omega), if_pos (by omega)]) (by intro ns hl; match ns, hl with | [_, _], _ => rfl) (fun ns h => ⟨⟨⟨rfl, rfl, rfl, rfl, rfl, rfl, rfl⟩, rdB_nil _, rdR_nil _⟩, fr_nil _, fr_nil _, by simp, by simp⟩)
    · exact leafI F3 hb0 hle [3] rfl (by omega) (by intro j hj; simp at hj; subst hj; exact ⟨0, rfl, ok0⟩) (fun ns => (k, 0, 0, ns.getD 0 0, 0, 0, false, ⟨none, 0, 0⟩, ⟨none, 0, 0⟩)) (fun ns => ⟨k, 0, 0, ns.getD 0 0, 0, 0, false, [], []⟩) (by unfold rawP; rw [if_neg (by omega), if_neg (by omega), if_neg (by omega), if_neg (by omega), if_pos (by omega)]) (by intro ns hl; match ns, hl with | [_], _ => rfl) (fun ns h => ⟨⟨⟨rfl, rfl, rfl, rfl, rfl, rfl, rfl⟩, rdB_nil _, rdR_nil _⟩, fr_nil _, fr_nil _, by simp, by simp⟩)
    · exact leafI F3 hb0 hle [3] rfl (by omega) (by intro j hj; simp at hj; subst hj; exact ⟨0, rfl, ok0⟩) (fun ns => (k, 0, 0, ns.getD 0 0, 0, 0, false, ⟨none, 0, 0⟩, ⟨none, 0, 0⟩)) (fun ns => ⟨k, 0, 0, ns.getD 0 0, 0, 0, false, [], []⟩) (by unfold rawP; rw [if_neg (by omega), if_neg (by omega), if_neg (by omega), if_neg (by omega), if_pos (by omega)]) (by intro ns hl; match ns, hl with | [_], _ => rfl) (fun ns h => ⟨⟨⟨rfl, rfl, rfl, rfl, rfl, rfl, rfl⟩, rdB_nil _, rdR_nil _⟩, fr_nil _, fr_nil _, by simp, by simp⟩)
    · refine PO.takeF [3] rfl (by omega) U3.wf R3 T3' (by intro j hj; simp at hj; subst hj; exact ⟨0, rfl, ok0⟩) hne fun ns h5 hl hok T5 R5 V5 u5 => ?_
      obtain ⟨a, rfl⟩ : ∃ a, ns = [a] := by
        match ns, hl with
        | [a], _ => exact ⟨a, rfl⟩
      have T5' : Box h5 g0.size (f9L (k, 0, 0, a, 0, 0, false, ⟨none, 0, 0⟩, ⟨none, 0, 0⟩)) := T5
      have U5 := F3.upU hle u5
      refine PO.call (rflag_f U5.wf R5) fun fl h6 ⟨R6, V6, u6⟩ => ?_
      have B6 : FB g0 b g0.size _ h6 (k, 0, 0, a, 0, 0, false, ⟨none, 0, 0⟩, ⟨none, 0, 0⟩) ⟨k, 0, 0, a, 0, 0, false, [], []⟩ := ⟨U5.trans u6 (fun A _ e => e), Box.ku u6 (fun e => hne e.symm) T5', R6, ⟨⟨rfl, rfl, rfl, rfl, rfl, rfl, rfl⟩, rdB_nil _, rdR_nil _⟩, fr_nil _, fr_nil _, by simp, by simp⟩
      refine B6.st hb0 hle (by omega) rfl fun h7 T7 R7 U7 u7 => ?_
      have T7' : Box h7 g0.size (f9L (k, 0, 0, a, 0, 0, fl, ⟨none, 0, 0⟩, ⟨none, 0, 0⟩)) := T7
      obtain ⟨o1, o2⟩ := retOut (p := rawP k) (v := ⟨k, 0, 0, a, 0, 0, fl, [], []⟩) (by
        unfold rawP
        rw [if_neg (by omega), if_neg (by omega), if_neg (by omega), if_neg (by omega), if_neg (by omega), if_pos (by omega), stp_bind _ V5]
        exact stp_bind _ V6)
      exact .retL (fjOut (v := ⟨k, 0, 0, a, 0, 0, fl, [], []⟩) ⟨U7, T7', R7, ⟨⟨rfl, rfl, rfl, rfl, rfl, rfl, rfl⟩, rdB_nil _, rdR_nil _⟩, fr_nil _, fr_nil _, by simp, by simp⟩ o1 o2)
    · refine PO.call (rdata_f U3.wf R3) fun s8 h8 ⟨⟨d, rd, hd, V8⟩, R8, u8, f8⟩ => ?_
      have B8 : FB g0 b g0.size _ h8 (k, 0, 0, 0, 0, 0, false, ⟨none, 0, 0⟩, ⟨none, 0, 0⟩) ⟨k, 0, 0, 0, 0, 0, false, [], []⟩ := ⟨U3.trans u8 (fun A _ e => e), Box.ku u8 (fun e => hne e.symm) T3', R8, ⟨⟨rfl, rfl, rfl, rfl, rfl, rfl, rfl⟩, rdB_nil _, rdR_nil _⟩, fr_nil _, fr_nil _, by simp, by simp⟩
      refine B8.st hb0 hle (by omega) rfl fun h9 T9 R9 U9 u9 => ?_
      have T9' : Box h9 g0.size (f9L (k, 0, 0, 0, 0, 0, false, s8, ⟨none, 0, 0⟩)) := T9
      have hfa : Fr (g0.size + 1) s8 := f8.mono T3'.blt
      obtain ⟨o1, o2⟩ := retOut (p := rawP k) (v := ⟨k, 0, 0, 0, 0, 0, false, d, []⟩) (by
        unfold rawP
        rw [if_neg (by omega), if_neg (by omega), if_neg (by omega), if_neg (by omega), if_neg (by omega), if_neg (by omega), if_pos (by omega)]
        exact stp_bind _ V8)
      exact .retL (fjOut (v := ⟨k, 0, 0, 0, 0, 0, false, d, []⟩) ⟨U9, T9', R9, ⟨⟨rfl, rfl, rfl, rfl, rfl, rfl, rfl⟩, Rd.up rd u9 (fun p hp => by have := hfa p hp; omega), rdR_nil _⟩, hfa, fr_nil _, hd, by simp⟩ o1 o2)
    · exact leafI F3 hb0 hle [1] rfl (by omega) (by intro j hj; simp at hj; subst hj; exact ⟨0, rfl, ok0⟩) (fun ns => (k, ns.getD 0 0, 0, 0, 0, 0, false, ⟨none, 0, 0⟩, ⟨none, 0, 0⟩)) (fun ns => ⟨k, ns.getD 0 0, 0, 0, 0, 0, false, [], []⟩) (by unfold rawP; rw [if_neg (by omega), if_neg (by omega), if_neg (by omega), if_neg (by omega), if_neg (by omega), if_neg (by omega), if_neg (by omega), if_pos (by omega)]) (by intro ns hl; match ns, hl with | [_], _ => rfl) (fun ns h => ⟨⟨⟨rfl, rfl, rfl, rfl, rfl, rfl, rfl⟩, rdB_nil _, rdR_nil _⟩, fr_nil _, fr_nil _, by simp, by simp⟩)
    · exact leafI F3 hb0 hle [1] rfl (by omega) (by intro j hj; simp at hj; subst hj; exact ⟨0, rfl, ok0⟩) (fun ns => (k, ns.getD 0 0, 0, 0, 0, 0, false, ⟨none, 0, 0⟩, ⟨none, 0, 0⟩)) (fun ns => ⟨k, ns.getD 0 0, 0, 0, 0, 0, false, [], []⟩) (by unfold rawP; rw [if_neg (by omega), if_neg (by omega), if_neg (by omega), if_neg (by omega), if_neg (by omega), if_neg (by omega), if_neg (by omega), if_pos (by omega)]) (by intro ns hl; match ns, hl with | [_], _ => rfl) (fun ns h => ⟨⟨⟨rfl, rfl, rfl, rfl, rfl, rfl, rfl⟩, rdB_nil _, rdR_nil _⟩, fr_nil _, fr_nil _, by simp, by simp⟩)
    · obtain ⟨o1, o2⟩ := retOut (st := s3) (st' := s3) (p := rawP k) (v := ⟨k, 0, 0, 0, 0, 0, false, [], []⟩) (by
        unfold rawP
        rw [if_neg (by omega), if_neg (by omega), if_neg (by omega), if_neg (by omega), if_neg (by omega), if_neg (by omega), if_neg (by omega), if_neg (by omega)])
      exact .retL (fjOut F3 o1 o2)
  · rintro ⟨st, h5⟩ ⟨es, y, v, B5, V5⟩
    have es' : st = (some ⟨b, 0, some 0⟩, some ⟨h.size, 0, some 0⟩, some ⟨g0.size, 0, some 0⟩) := es
    subst es'
    have B5' : FB g0 b g0.size (stO (stp s3 (rawP k))) h5 y v := B5
    have U5 := B5'.up
    have hF : pFrame l = stp (stO (stp s3 (rawP k))) (finF v) := by
      show stp (.inr l) (bindP (pT 1) fun ns => bindP (rawP (ns.getD 0 0)) finF) = _
      rw [hraw]; exact stp_bind _ V5
    generalize stO (stp s3 (rawP k)) = s5 at *
    have hld := B5'.ld
    have hls := B5'.ls
    refine PO.join (fun st => ∃ h6, st = ((some ⟨h.size, 0, some 0⟩, some ⟨g0.size, 0, some 0⟩), h6) ∧ Box h6 g0.size (f9L y) ∧ RdrA h6 b (stO (pFrame l)) ∧ isV (pFrame l) v ∧ FRd h6 y v ∧ UP (· = b) g0 h6) ?_ ?_
    · refine .ptr (PO.ldF B5'.box (PO.call (FRight_f U5.wf B5'.frd (by omega) (by omega)) fun a h6 ⟨ea, x6⟩ => ?_))
      subst ea
      have T6 := Box.kx x6 B5'.box
      have R6 := B5'.rdr.ex x6
      have fr6 := B5'.frd.ex x6
      refine .condND (fun hn => PO.call (fail_f x6.wf R6 (by decide)) fun _ h7 ⟨R7, u7⟩ => .retL ⟨h7, rfl, Box.ku u7 (fun e => hne e.symm) T6, ?_, ?_, ⟨fr6.e, Rd.up fr6.data u7 (fun a ha e => by have := B5'.fd a ha; omega), Rd.up fr6.spans u7 (fun a ha e => by have := B5'.fs a ha; omega)⟩, (U5.ex x6).trans u7 (fun A _ e => e)⟩) (fun hv => .retL ⟨h6, rfl, T6, ?_, ?_, fr6, U5.ex x6⟩)
      · rw [hF]
        cases s5 with
        | inl e => exact R7
        | inr r => simpa [stp, finF, hn, stO, failS] using R7
      · rw [hF]
        intro x r hx
        cases s5 with
        | inl e => simp [stp] at hx
        | inr r => simp [stp, finF, hn] at hx
      · rw [hF]
        cases s5 with
        | inl e => exact R6
        | inr r => simpa [stp, finF, hv, stO] using R6
      · rw [hF]
        intro x r hx
        cases s5 with
        | inl e => simp [stp] at hx
        | inr r => simp [stp, finF, hv] at hx; exact hx.1.symm
    · rintro _ ⟨h6, rfl, T6, R6, V6, fr6, U6⟩
      have hhb : ¬ h.size = b := by omega
      have B6 : Box h6 h.size (f9L f90) := Box.ku U6 hhb B0
      refine .ptr (PO.ldF T6 (.ptr ?_))
      refine PO.stZ B6 U6.wf rfl rfl fun h7 B7 u7 z7 w7 => .ptr (PO.ldF (x := y) B7 (.ret ⟨⟨v, ⟨fr6.e, Rd.up fr6.data u7 (fun a ha e => by have := B5'.fd a ha; omega), Rd.up fr6.spans u7 (fun a ha e => by have := B5'.fs a ha; omega)⟩, V6⟩, R6.up U6.wf B6 (noU8_f9 _) (by omega) u7, ?_, fun a ha => ?_, fun a ha => ?_⟩))
      · exact ⟨by have := x0.size; have := U6.size; have := u7.size; omega, u7.nro.trans (U6.nro.trans x0.nro), w7, fun A hA hn => (u7.same A (by have := U6.size; omega) (by omega)).trans ((U6.same A (by omega) hn).trans (x0.same A hA))⟩
      · have := B5'.fd a ha; omega
      · have := B5'.fs a ha; omega
end Go.Proofs.Ythiccnmplgdheaa.T
/- The plain law of chapter 5's reader: what goes on behind, what is cut short, what was laid. -/
set_option linter.unusedVariables false
set_option linter.unusedSimpArgs false
namespace Go.Proofs.Ythiccnmplgdheaa.T
open Go Go.Abs Go.Proofs
/-- a parser: takes from the front; what lies behind matters only where it says 'short' (3) -/
structure Good {α : Type} (p : RP α) : Prop where
  shr : ∀ l a r, p l = .inr (a, r) → r.length ≤ l.length
  ext : ∀ l a r x, p l = .inr (a, r) → p (l ++ x) = .inr (a, r ++ x)
  err : ∀ l e, p l = .inl e → e = 3 ∨ (e = 2 ∧ ∀ x, p (l ++ x) = .inl e)
theorem Good.bind {α β : Type} {p : RP α} {f : α → RP β} (hp : Good p) (hf : ∀ a, Good (f a)) : Good (bindP p f) := by
  refine ⟨fun l b r e => ?_, fun l b r x e => ?_, fun l e h => ?_⟩
  · simp only [bindP] at e
    cases hq : p l with
    | inl e' => rw [hq] at e; simp at e
    | inr y =>
      obtain ⟨a, r'⟩ := y
      rw [hq] at e
      exact Nat.le_trans ((hf a).shr _ _ _ e) (hp.shr _ _ _ hq)
  · simp only [bindP] at e ⊢
    cases hq : p l with
    | inl e' => rw [hq] at e; simp at e
    | inr y =>
      obtain ⟨a, r'⟩ := y
      rw [hq] at e
      rw [hp.ext _ _ _ x hq]
      exact (hf a).ext _ _ _ x e
  · simp only [bindP] at h ⊢
    cases hq : p l with
    | inl e' =>
      rw [hq] at h
      cases h
      rcases hp.err _ _ hq with h3 | ⟨h2, hx⟩
      · exact .inl h3
      · exact .inr ⟨h2, fun x => by rw [hx x]⟩
    | inr y =>
      obtain ⟨a, r'⟩ := y
      rw [hq] at h
      rcases (hf a).err _ _ h with h3 | ⟨h2, hx⟩
      · exact .inl h3
      · exact .inr ⟨h2, fun x => by rw [hp.ext _ _ _ x hq]; exact hx x⟩
theorem Good.ret {α : Type} (a : α) : Good (retP a) :=
  ⟨fun l b r e => by simp [retP] at e; rw [e.2]; exact Nat.le_refl _, fun l b r x e => by simp [retP] at e ⊢; simp [e.1, e.2], fun l e h => by simp [retP] at h⟩
def failP {α : Type} : RP α := fun _ => .inl 2
theorem Good.fail {α : Type} : Good (failP (α := α)) := ⟨fun l b r e => by simp [failP] at e, fun l b r x e => by simp [failP] at e, fun l e h => by simp only [failP, Sum.inl.injEq] at h; exact .inr ⟨h.symm, fun x => by rw [← h]; rfl⟩⟩
theorem Good.ite {α : Type} {c : Prop} [Decidable c] {p q : RP α} (hp : Good p) (hq : Good q) : Good (if c then p else q) := by split <;> assumption
theorem tk_ext (l x : List UInt8) (h : (tk l).2.2 = 0) : tk (l ++ x) = ((tk l).1, (tk l).2.1 ++ x, 0) := by
  cases l with
  | nil => simp [tk] at h
  | cons b t =>
    simp only [tk, List.cons_append, List.length_append] at h ⊢
    split at h
    · simp at h
    · rename_i hlt
      rw [if_neg (by omega), if_neg hlt]
      have : tsz b - 1 ≤ t.length := by omega
      rw [List.take_append_of_le_length this, List.drop_append_of_le_length this]
theorem tk_lt (l : List UInt8) (h : (tk l).2.2 = 0) : (tk l).2.1.length < l.length := by
  cases l with
  | nil => simp [tk] at h
  | cons b t =>
    simp only [tk] at h ⊢
    split at h
    · simp at h
    · rename_i hlt
      rw [if_neg hlt]; simp; omega
theorem Good.pT : ∀ n, Good (pT n)
  | 0 => ⟨fun l a r e => by simp [T.pT, tks] at e; rw [e.2]; exact Nat.le_refl _, fun l a r x e => by simp [T.pT, tks] at e ⊢; simp [e.1, e.2], fun l e h => by simp [T.pT, tks] at h⟩
  | n + 1 => by
    have ih := Good.pT n
    refine ⟨fun l a r e => ?_, fun l a r x e => ?_, fun l e h => ?_⟩
    · rw [pT_succ] at e
      split at e
      · rename_i h0
        cases hq : T.pT n (tk l).2.1 with
        | inl e' => rw [hq] at e; simp at e
        | inr y =>
          rw [hq] at e
          simp only [Sum.inr.injEq, Prod.mk.injEq] at e
          have h1 := ih.shr _ y.1 y.2 hq
          have h2 := tk_lt l h0
          rw [← e.2]; omega
      · simp at e
    · rw [pT_succ] at e ⊢
      split at e
      · rename_i h0
        rw [tk_ext l x h0]
        simp only [if_true]
        cases hq : T.pT n (tk l).2.1 with
        | inl e' => rw [hq] at e; simp at e
        | inr y =>
          rw [hq] at e
          simp only [Sum.inr.injEq, Prod.mk.injEq] at e
          rw [ih.ext _ y.1 y.2 x hq]
          simp [← e.1, ← e.2]
      · simp at e
    · rw [pT_succ] at h
      split at h
      · rename_i h0
        cases hq : T.pT n (tk l).2.1 with
        | inl e' =>
          rw [hq] at h
          cases h
          rcases ih.err _ _ hq with h3 | ⟨h2, hx⟩
          · exact .inl h3
          · refine .inr ⟨h2, fun x => ?_⟩
            rw [pT_succ, tk_ext l x h0]
            simp only [if_true]
            rw [hx x]
        | inr y => rw [hq] at h; simp at h
      · simp only [Sum.inl.injEq] at h; exact .inl h.symm
theorem pFlag_eq : pFlag = bindP (pT 1) fun ns => if ns.getD 0 0 > 1 then failP else retP (decide (ns.getD 0 0 = 1)) := by
  funext l
  simp only [pFlag, bindP]
  cases pT 1 l with
  | inl e => rfl
  | inr y => simp only; split <;> rfl
def dataP (n : Int) : RP (List UInt8) := fun r => if n > (r.length : Int) then .inl 3 else .inr (r.take n.toNat, r.drop n.toNat)
theorem pData_eq : pData = bindP (pT 1) fun ns => if ns.getD 0 0 > 120 then failP else dataP (ns.getD 0 0) := by
  funext l
  simp only [pData, bindP]
  cases pT 1 l with
  | inl e => rfl
  | inr y => simp only; split <;> rfl
theorem Good.dataP (n : Int) : Good (dataP n) := by
  refine ⟨fun l a r e => ?_, fun l a r x e => ?_, fun l e h => ?_⟩
  · simp only [T.dataP] at e
    split at e
    · simp at e
    · simp at e; rw [← e.2]; simp
  · simp only [T.dataP] at e ⊢
    split at e
    · simp at e
    · rename_i hn
      simp only [Sum.inr.injEq, Prod.mk.injEq] at e
      rw [if_neg (by simp; omega), List.take_append_of_le_length (by omega), List.drop_append_of_le_length (by omega), e.1, e.2]
  · simp only [T.dataP] at h
    split at h
    · simp only [Sum.inl.injEq] at h; exact .inl h.symm
    · simp at h
theorem spK_eq (k : Nat) (p : Option Int) : spK (k + 1) p = bindP (pT 1) fun ns => if badP p (ns.getD 0 0) then failP else bindP (pT 1) fun ms => if ms.getD 0 0 > lastV p (ns.getD 0 0) then failP else bindP (spK k (some (lastV p (ns.getD 0 0) - ms.getD 0 0))) fun q => retP ((lastV p (ns.getD 0 0) - ms.getD 0 0, lastV p (ns.getD 0 0)) :: q) := by
  funext l
  simp only [spK, bindP]
  cases pT 1 l with
  | inl e => rfl
  | inr y =>
    simp only
    split
    · rfl
    · cases hq : pT 1 y.2 with
      | inl e => simp only [bindP, hq]
      | inr z =>
        simp only [bindP, hq]
        split
        · rfl
        · cases hz : spK k (some (lastV p (y.1.getD 0 0) - z.1.getD 0 0)) z.2 <;> simp only [bindP, hz] <;> rfl
theorem Good.spK : ∀ (k : Nat) (p : Option Int), Good (spK k p)
  | 0, p => Good.ret []
  | k + 1, p => by
    rw [spK_eq]
    exact (Good.pT 1).bind fun ns => .ite .fail ((Good.pT 1).bind fun ms => .ite .fail ((Good.spK k _).bind fun q => .ret _))
theorem pSpans_eq : pSpans = bindP (pT 1) fun ns => if ns.getD 0 0 < 1 ∨ ns.getD 0 0 > 8 then failP else spK (ns.getD 0 0).toNat none := by
  funext l
  simp only [pSpans, bindP]
  cases pT 1 l with
  | inl e => rfl
  | inr y => simp only; split <;> rfl
theorem Good.pSpans : Good pSpans := by rw [pSpans_eq]; exact (Good.pT 1).bind fun ns => .ite .fail (.spK _ _)
theorem Good.pFlag : Good pFlag := by rw [pFlag_eq]; exact (Good.pT 1).bind fun ns => .ite .fail (.ret _)
theorem Good.pData : Good pData := by rw [pData_eq]; exact (Good.pT 1).bind fun ns => .ite .fail (.dataP _)
theorem Good.rawP (k : Int) : Good (rawP k) := by
  unfold T.rawP
  exact .ite (Good.pSpans.bind fun _ => .ret _) (.ite ((Good.pT 2).bind fun _ => Good.pFlag.bind fun _ => Good.pData.bind fun _ => .ret _) (.ite ((Good.pT 4).bind fun _ => .ret _) (.ite ((Good.pT 2).bind fun _ => .ret _) (.ite ((Good.pT 1).bind fun _ => .ret _) (.ite ((Good.pT 1).bind fun _ => Good.pFlag.bind fun _ => .ret _) (.ite (Good.pData.bind fun _ => .ret _) (.ite ((Good.pT 1).bind fun _ => .ret _) (.ret _))))))))
theorem finF_eq (v : FV) : finF v = if FR v then retP v else failP := by
  funext l; unfold finF; split <;> rfl
theorem Good.finF (v : FV) : Good (finF v) := by rw [finF_eq]; exact .ite (.ret _) .fail
theorem Good.pFrame : Good pFrame := (Good.pT 1).bind fun ns => (Good.rawP _).bind fun v => .finF v
theorem pFrame_lt {l : List UInt8} {v : FV} {r : List UInt8} (h : pFrame l = .inr (v, r)) : r.length < l.length := by
  simp only [pFrame, bindP] at h
  cases hq : pT 1 l with
  | inl e => rw [hq] at h; simp at h
  | inr y =>
    obtain ⟨ns, r1⟩ := y
    rw [hq] at h
    have h1 : r1.length < l.length := by
      rw [pT_succ] at hq
      split at hq
      · rename_i h0
        have := tk_lt l h0
        simp [pT, tks] at hq
        rw [← hq.2]; exact this
      · simp at hq
    have h2 := ((Good.rawP (ns.getD 0 0)).bind Good.finF).shr r1 v r h
    omega
/-! what was laid is read -/
theorem encs_app : ∀ a b : List Int, encs (a ++ b) = encs a ++ encs b
  | [], b => rfl
  | x :: a, b => by simp [encs, encs_app a b]
theorem pT_encs {ns : List Int} (h : ∀ x ∈ ns, okN x) (l : List UInt8) : pT ns.length (encs ns ++ l) = .inr (ns, l) := by
  unfold pT; rw [tks_encs ns l h]
theorem pT1 {n : Int} (h : okN n) (l : List UInt8) : pT 1 (enc n ++ l) = .inr ([n], l) := by
  have := pT_encs (ns := [n]) (by simpa using h) l
  simpa [encs] using this
def gap1 : Option Int → Int → Int
  | none, y => y
  | some q, y => q - y
theorem ngo_cons (p : Option Int) (r : Run) (l : List Run) : ngo p (r :: l) = gap1 p r.2 :: (r.2 - r.1) :: ngo (some r.1) l := by cases p <;> rfl
theorem spK_rt : ∀ (l : List Run) (p : Option Int) (x : List UInt8), RSp p l → (∀ q, p = some q → okN q) → spK l.length p (encs (ngo p l) ++ x) = .inr (l, x)
  | [], p, x, _, _ => rfl
  | r :: l, p, x, h, hp => by
    obtain ⟨h1, h2, h3, h4⟩ := h
    have h1' := h1
    unfold okN at h1'
    have ho := ngo_ok (l := r :: l) ⟨h1, h2, h3, h4⟩ hp
    rw [ngo_cons] at ho
    simp only [List.mem_cons, forall_eq_or_imp] at ho
    obtain ⟨ho1, ho2, _⟩ := ho
    rw [ngo_cons]
    simp only [List.length_cons, encs, List.append_assoc]
    rw [spK_eq]
    simp only [bindP]
    rw [pT1 ho1]
    simp only [List.getD_cons_zero]
    have hb : badP p (gap1 p r.2) = false := by
      cases p with
      | none => rfl
      | some q => have := h3 q rfl; have := hp q rfl; unfold okN at this; show (decide (q - r.2 < 2) || decide (q - r.2 > q)) = false; rw [decide_eq_false (show ¬ q - r.2 < 2 by omega), decide_eq_false (show ¬ q - r.2 > q by omega)]; rfl
    have hl : lastV p (gap1 p r.2) = r.2 := by
      cases p with
      | none => rfl
      | some q => simp only [lastV, gap1]; omega
    rw [hb, hl]
    simp only [Bool.false_eq_true, if_false, bindP]
    rw [pT1 ho2]
    simp only [List.getD_cons_zero]
    rw [if_neg (by omega), show r.2 - (r.2 - r.1) = r.1 by omega]
    simp only [bindP]
    rw [spK_rt l (some r.1) x h4 (fun q hq => by cases hq; exact h1.1)]
    rfl
theorem FR.bare {v : FV} (h : FR v) : FR (bareV v) ∧ (bareV v).kind = v.kind := by
  have hs := h.1.2.1
  obtain ⟨e1, e2, e3, e4, e5, e6, e7, e8⟩ := hs
  have hb : bareV v = { v with note := (bareV v).note } := by
    rw [show bareV v = ⟨(bareV v).kind, (bareV v).id, (bareV v).off, (bareV v).a, (bareV v).b, (bareV v).note, (bareV v).fin, (bareV v).data, (bareV v).spans⟩ from rfl, ← e1, ← e2, ← e3, ← e4, ← e5, ← e6, ← e7, ← e8]
  refine ⟨?_, e1.symm⟩
  rw [hb]
  have hbb : bareV { v with note := (bareV v).note } = bareV v := rfl
  obtain ⟨⟨h1, h2, h3, h4⟩, h5⟩ := h
  exact ⟨⟨h1, by rw [hbb]; exact ⟨e1, e2, e3, e4, e5, e6, e7, e8⟩, h3, h4⟩, h5⟩
theorem pFlag_rt (b : Bool) (x : List UInt8) : pFlag (enc (flagV b) ++ x) = .inr (b, x) := by
  have ho : okN (flagV b) := by cases b <;> (unfold okN flagV; simp)
  rw [pFlag_eq]
  simp only [bindP]
  rw [pT1 ho]
  cases b <;> rfl
theorem pData_rt (d x : List UInt8) (h : d.length ≤ 120) : pData (enc (d.length : Int) ++ (d ++ x)) = .inr (d, x) := by
  have ho : okN (d.length : Int) := by unfold okN; omega
  rw [pData_eq]
  simp only [bindP]
  rw [pT1 ho]
  simp only [List.getD_cons_zero]
  rw [if_neg (by omega)]
  unfold dataP
  rw [if_neg (by simp; omega)]
  simp
theorem rawP_rt {v : FV} (h : FR v) (x : List UInt8) : ∃ r, numsV v = v.kind :: r ∧ rawP v.kind (encs r ++ v.data ++ x) = .inr (bareV v, x) := by
  obtain ⟨⟨h1, hs, ⟨h3, h4, h5, h6⟩, h7⟩, h8⟩ := h
  obtain ⟨k, id, off, a, b, note, fin, d, sp⟩ := v
  simp only at h1 h3 h4 h5 h6 h7
  have hnil : ∀ y : List UInt8, ([] : List UInt8) ++ y = y := fun y => rfl
  unfold numsV rawP bareV
  unfold sameV bareV at hs
  simp only at hs ⊢
  split
  · rename_i k2
    unfold FR1 at h8
    simp only [k2, if_true] at h8
    simp only [k2, if_true] at hs
    have hd : d = [] := hs.2.2.2.2.2.2.1
    subst hd
    refine ⟨_, rfl, ?_⟩
    have hn : okN (sp.length : Int) := by have := h8.2.2; unfold okN; omega
    rw [pSpans_eq]
    simp only [bindP, encs, List.append_assoc, List.nil_append]
    rw [pT1 hn]
    simp only [List.getD_cons_zero]
    have := h8.2
    rw [if_neg (by omega), Int.toNat_natCast, spK_rt sp none x h8.1 (fun q hq => by simp at hq)]
    rfl
  · rename_i k2
    simp only [k2, if_false] at hs ⊢
    split
    · refine ⟨_, rfl, ?_⟩
      have := pT_encs (ns := [id, off]) (by simp [h3, h4]) (enc (flagV fin) ++ (enc (d.length : Int) ++ (d ++ x)))
      simp only [encs, List.append_nil, List.append_assoc, List.length_cons, List.length_nil] at this ⊢
      simp only [bindP]
      rw [this]
      simp only
      rw [pFlag_rt]
      simp only
      rw [pData_rt d x h7]
      rfl
    · rename_i k3
      simp only [k3, if_false] at hs ⊢
      split
      · rename_i k4
        simp only [k4, if_true] at hs
        have hd : d = [] := hs.2.2.2.2.2.2.1
        subst hd
        refine ⟨_, rfl, ?_⟩
        have := pT_encs (ns := [id, a, off, b]) (by simp [h3, h4, h5, h6]) x
        simp only [encs, List.append_nil, List.nil_append, List.append_assoc, List.length_cons, List.length_nil] at this ⊢
        simp only [bindP]
        rw [this]
        rfl
      · rename_i k4
        simp only [k4, if_false] at hs ⊢
        split
        · rename_i k5
          simp only [k5, if_true] at hs
          have hd : d = [] := hs.2.2.2.2.2.2.1
          subst hd
          refine ⟨_, rfl, ?_⟩
          have := pT_encs (ns := [id, a]) (by simp [h3, h5]) x
          simp only [encs, List.append_nil, List.nil_append, List.append_assoc, List.length_cons, List.length_nil] at this ⊢
          simp only [bindP]
          rw [this]
          rfl
        · rename_i k5
          simp only [k5, if_false] at hs ⊢
          split
          · rename_i k6
            simp only [k6, if_true] at hs
            have hd : d = [] := hs.2.2.2.2.2.2.1
            subst hd
            refine ⟨_, rfl, ?_⟩
            simp only [encs, List.append_nil, List.nil_append, List.append_assoc]
            simp only [bindP]
            rw [pT1 h5]
            rfl
          · rename_i k6
            simp only [k6, if_false] at hs ⊢
            split
            · rename_i k8
              simp only [k8, if_true] at hs
              have hd : d = [] := hs.2.2.2.2.2.2.1
              subst hd
              refine ⟨_, rfl, ?_⟩
              simp only [encs, List.append_nil, List.nil_append, List.append_assoc]
              simp only [bindP]
              rw [pT1 h5]
              simp only
              rw [pFlag_rt]
              rfl
            · rename_i k8
              simp only [k8, if_false] at hs ⊢
              split
              · refine ⟨_, rfl, ?_⟩
                simp only [encs, List.append_nil, List.nil_append, List.append_assoc]
                simp only [bindP]
                rw [pData_rt d x h7]
                rfl
              · rename_i k9
                simp only [k9, if_false] at hs ⊢
                split
                · rename_i k10
                  simp only [k10, if_true] at hs
                  have hd : d = [] := hs.2.2.2.2.2.2.1
                  subst hd
                  refine ⟨_, rfl, ?_⟩
                  simp only [encs, List.append_nil, List.nil_append, List.append_assoc]
                  simp only [bindP]
                  rw [pT1 h3]
                  rfl
                · rename_i k10
                  simp only [k10, if_false] at hs
                  have hd : d = [] := hs.2.2.2.2.2.2.1
                  subst hd
                  exact ⟨_, rfl, rfl⟩
theorem pFrame_rt {v : FV} (h : FR v) (x : List UInt8) : pFrame (lay1 v ++ x) = .inr (bareV v, x) := by
  obtain ⟨r, h1, h2⟩ := rawP_rt h x
  have hk : okN v.kind := by have := h.1.1; unfold okN; omega
  unfold lay1
  rw [h1]
  simp only [pFrame, bindP, encs, List.append_assoc]
  rw [pT1 hk]
  simp only [List.getD_cons_zero]
  rw [← List.append_assoc, h2]
  simp only [finF]
  rw [if_pos (FR.bare h).1]
end Go.Proofs.Ythiccnmplgdheaa.T
/- Chapter 5's reader over the typed texts: frames read one behind the other. -/
set_option linter.unusedVariables false
set_option linter.unusedSimpArgs false
namespace Go.Proofs.Ythiccnmplgdheaa.T
open Go Go.Abs Go.Proofs
def pRead : Nat → List UInt8 → Int ⊕ List FV
  | _, [] => .inr []
  | 0, _ :: _ => .inl 3
  | n + 1, c :: t => match pFrame (c :: t) with
    | .inl e => .inl e
    | .inr (v, r) => match pRead n r with
      | .inl e => .inl e
      | .inr vs => .inr (v :: vs)
def consV (vs : List FV) : Int ⊕ List FV → Int ⊕ List FV
  | .inl e => .inl e
  | .inr us => .inr (vs ++ us)
theorem FRs.up {h h' : H} {b n : Nat} (u : UP (· = b) h h') (hb : b < n) : ∀ {xs : List F9} {vs : List FV}, (∀ x ∈ xs, Fr n x.2.2.2.2.2.2.2.1 ∧ Fr n x.2.2.2.2.2.2.2.2) → FRs h xs vs → FRs h' xs vs
  | [], [], _, _ => trivial
  | x :: xs, v :: vs, hn, r => ⟨⟨r.1.e, Rd.up r.1.data u (fun a ha e => by have := (hn x (by simp)).1 a ha; omega), Rd.up r.1.spans u (fun a ha e => by have := (hn x (by simp)).2 a ha; omega)⟩, FRs.up u hb (fun y hy => hn y (by simp [hy])) r.2⟩
  | [], _ :: _, _, r => r.elim
  | _ :: _, [], _, r => r.elim
def ReadQ (h1 : H) (a : Sl × Int) : Int ⊕ List FV → Prop
  | .inl e => a = (⟨none, 0, 0⟩, e)
  | .inr vs => (∃ xs, RdF h1 a.1 xs vs) ∧ a.2 = 0
theorem FRead_f {h : H} (w : WF h) {s : Sl} {l : List UInt8} (hr : RdB h s l) (hl : l.length ≤ 2 ^ 38) : PO (frame_Read s h) (fun (a, h1) => EX h h1 ∧ ReadQ h1 a (pRead l.length l)) := by
  unfold frame_Read
  refine PO.newB w fun g x0 B0 z0 w0 => ?_
  have hb : h.size < g.size := by omega
  have R0 : RdrA g h.size (.inr l) := ⟨by omega, s, B0, hr.ex x0⟩
  generalize hF : pRead l.length l = F
  refine PO.joinD (PO.mono (P := Sum.elim (fun a => (∃ xs vs, FRs a.2 xs vs ∧ Buf 9 a.2 a.1 (fsV xs) ∧ F = .inr vs ∧ vs.length ≤ l.length) ∧ UP (· = h.size) g a.2) (fun a => UP (· = h.size) g a.2 ∧ ∃ e, a.1 = (⟨none, 0, 0⟩, e) ∧ F = .inl e)) ?_ ?_)
  · refine PO.loop (fun m st => ∃ (l' : List UInt8) (out : Sl) (h' : H) (xs : List F9) (vs : List FV) (n : Nat), st = ((some ⟨h.size, 0, some 0⟩, out), h') ∧ m = l'.length ∧ RdrA h' h.size (.inr l') ∧ Buf 9 h' out (fsV xs) ∧ FRs h' xs vs ∧ (∀ x ∈ xs, Fr g.size x.2.2.2.2.2.2.2.1 ∧ Fr g.size x.2.2.2.2.2.2.2.2) ∧ Fr g.size out ∧ UP (· = h.size) g h' ∧ l'.length ≤ n ∧ F = consV vs (pRead n l') ∧ vs.length + l'.length ≤ l.length) ?_ l.length _ ⟨l, _, g, [], [], l.length, rfl, rfl, R0, buf_nil 9 g, trivial, by simp, fr_nil _, UP.refl w0, Nat.le_refl _, ?_, by simp⟩
    · rintro m st ⟨l', out, h', xs, vs, n, rfl, rfl, R, hbuf, hfr, hxs, hf, U, hn, hF', hvl⟩
      unfold P.frame_Read_l1
      have R' := R
      obtain ⟨hl', s', B', rd'⟩ := R
      have hsl := RdB.len rd'
      refine .ptr (.ldL B' rfl (.condD (fun c => ?_) (fun c => ?_)))
      · have hpos : 0 < l'.length := by have c' : ((s'.len : Nat) : Int) > 0 := c; omega
        refine PO.call (rframe_f U.wf R') fun x h1 ⟨⟨v, fv, V1⟩, R1, u1, fd, fs⟩ => ?_
        refine PO.boxF rfl u1.wf fun h3 x3 B3 z3 => ?_
        have R3 := R1.ex x3
        have U3 : UP (· = h.size) h' h3 := u1.ex x3
        have UU : UP (· = h.size) g h3 := U.trans U3 (fun A _ e => e)
        obtain ⟨n', hn'⟩ : ∃ n', n = n' + 1 := ⟨n - 1, by omega⟩
        subst hn'
        obtain ⟨cc, t, hct⟩ : ∃ cc t, l' = cc :: t := by
          cases l' with
          | nil => simp at hpos
          | cons cc t => exact ⟨cc, t, rfl⟩
        have hpr : pRead (n' + 1) l' = match pFrame l' with
            | .inl e => .inl e
            | .inr (v, r) => match pRead n' r with
              | .inl e => .inl e
              | .inr vs => .inr (v :: vs) := by subst hct; rfl
        cases hp : pFrame l' with
        | inl e =>
          rw [hp] at R3
          obtain ⟨he, l2, hl2, s2, B2, rd2⟩ := R3
          refine .ptr (.ldI B2 rfl (.condNE (fun _ => .ptr (.ldI B2 rfl (.retR ⟨UU, e, rfl, ?_⟩))) (fun hc => absurd hc he)))
          rw [hF', hpr, hp]; rfl
        | inr y =>
          obtain ⟨v', r⟩ := y
          have hv := V1 v' r hp
          subst hv
          rw [hp] at R3
          have R3' : RdrA h3 h.size (.inr r) := R3
          obtain ⟨hl2, s2, B2, rd2⟩ := R3
          refine .ptr (.ldI B2 rfl (.condNE (fun hc => absurd rfl hc) (fun _ => PO.ldF B3 ?_)))
          have b3 : Buf 9 h3 out (fsV xs) := Buf.up U.wf hbuf U3 (fun a ha e => by have := hf a ha; omega)
          have hfl := hfr.len
          have hlt := pFrame_lt hp
          refine PO.appF1 (n := g.size) x3.wf b3 (by rw [UU.nro]; exact w0.nro) UU.size hf (by omega) fun out1 h5 b5 u5 f5 k5 => .retL ⟨r.length, hlt, r, out1, h5, xs ++ [x], vs ++ [v'], n', rfl, rfl, R3'.kp k5 u5 hb, b5, ?_, ?_, f5, ?_, by omega, ?_, by simp; omega⟩
          · exact FRs.app ((hfr.up U3 hb hxs).kp k5) ⟨(fv.ex x3).kp k5, trivial⟩
          · intro q hq
            rcases List.mem_append.1 hq with hq | hq
            · exact hxs q hq
            · simp at hq; subst hq; exact ⟨fd.mono U.size, fs.mono U.size⟩
          · exact ⟨Nat.le_trans UU.size u5.size, u5.nro.trans UU.nro, u5.wf, fun A hA hn => (u5.same A (Nat.lt_of_lt_of_le hA UU.size) (by omega)).trans (UU.same A hA hn)⟩
          · rw [hF', hpr, hp]
            simp only
            cases pRead n' r with
            | inl e => rfl
            | inr us => simp [consV]
      · have hnil : l' = [] := List.eq_nil_of_length_eq_zero (by have c' : ¬ ((s'.len : Nat) : Int) > 0 := c; omega)
        subst hnil
        refine .retR ⟨⟨xs, vs, hfr, hbuf, ?_, by omega⟩, U⟩
        rw [hF']
        have : pRead n [] = .inr [] := by cases n <;> rfl
        rw [this]
        simp [consV]
    · rw [hF]
      cases F <;> simp [consV]
  · rintro (⟨out, h1⟩ | ⟨⟨a, e⟩, h1⟩) hp
    · obtain ⟨⟨xs, vs, hfr, hbuf, hF2, hvl⟩, U⟩ := hp
      have hfr' : FRs h1 xs vs := hfr
      have hbuf' : Buf 9 h1 out (fsV xs) := hbuf
      have U' : UP (· = h.size) g h1 := U
      have hol := hbuf'.rd.len
      rw [fsV_length] at hol
      have hxl := hfr'.len
      obtain ⟨s', e1, b1, _, _⟩ := clip_buf (by omega) (by unfold B63; omega) hbuf' (by unfold B63; omega)
      show PO (bind2 (slices_Clip_api_Frame_api_Frame out h1) _) _
      unfold slices_Clip_api_Frame_api_Frame
      refine PO.callE (a := s') (h1 := h1) (by rw [e1]; rfl) (.ret ⟨UP.ex0 U' x0 (fun A hA e => by omega), ?_⟩)
      rw [hF2]
      exact ⟨⟨xs, b1.rd, hfr'⟩, rfl⟩
    · obtain ⟨U, e', ee, hF2⟩ := hp
      simp only [Prod.mk.injEq] at ee
      obtain ⟨rfl, rfl⟩ := ee
      refine ⟨UP.ex0 U x0 (fun A hA e => by omega), ?_⟩
      rw [hF2]
      exact rfl
/-! what was laid is read; what is cut short is not -/
theorem pRead_fuel : ∀ (l : List UInt8) (n m : Nat), l.length ≤ n → l.length ≤ m → pRead n l = pRead m l := by
  intro l
  induction hk : l.length using Nat.strongRecOn generalizing l with
  | _ k ih =>
    intro n m hn hm
    cases l with
    | nil => cases n <;> cases m <;> rfl
    | cons c t =>
      simp only [List.length_cons] at hk
      obtain ⟨n', rfl⟩ : ∃ n', n = n' + 1 := ⟨n - 1, by omega⟩
      obtain ⟨m', rfl⟩ : ∃ m', m = m' + 1 := ⟨m - 1, by omega⟩
      simp only [pRead]
      cases hp : pFrame (c :: t) with
      | inl e => rfl
      | inr y =>
        obtain ⟨v, r⟩ := y
        have hlt := pFrame_lt hp
        simp only [List.length_cons] at hlt
        simp only
        rw [ih r.length (by omega) r rfl n' m' (by omega) (by omega)]
theorem lay1_pos {v : FV} (h : FR v) : 0 < (lay1 v).length := by
  have h1 := pFrame_rt h []
  have h2 := pFrame_lt h1
  simp only [List.append_nil, List.length_nil] at h2
  exact h2
theorem pRead_step {v : FV} (h : FR v) (x : List UInt8) {n : Nat} (hn : (lay1 v ++ x).length ≤ n) : pRead n (lay1 v ++ x) = match pRead x.length x with
    | .inl e => .inl e
    | .inr vs => .inr (bareV v :: vs) := by
  have h0 := lay1_pos h
  have h1 := pFrame_rt h x
  simp only [List.length_append] at hn
  obtain ⟨n', rfl⟩ : ∃ n', n = n' + 1 := ⟨n - 1, by omega⟩
  obtain ⟨c, t, hc⟩ : ∃ c t, lay1 v ++ x = c :: t := by
    cases hl : lay1 v ++ x with
    | nil => have := congrArg List.length hl; simp only [List.length_append, List.length_nil] at this; omega
    | cons c t => exact ⟨c, t, rfl⟩
  rw [hc] at h1 ⊢
  simp only [pRead, h1]
  rw [pRead_fuel x n' x.length (by omega) (Nat.le_refl _)]
theorem pRead_lay : ∀ {vs : List FV}, (∀ v ∈ vs, FR v) → pRead (layFs vs).length (layFs vs) = .inr (vs.map bareV)
  | [], _ => rfl
  | v :: vs, h => by
    simp only [layFs]
    rw [pRead_step (h v (by simp)) _ (Nat.le_refl _), pRead_lay (fun u hu => h u (by simp [hu]))]
    rfl
theorem pFrame_short {v : FV} (h : FR v) {p q : List UInt8} (e : p ++ q = lay1 v) (hq : q ≠ []) : pFrame p = .inl 3 := by
  have h1 := pFrame_rt h []
  rw [List.append_nil, ← e] at h1
  cases hp : pFrame p with
  | inl e' =>
    rcases Good.pFrame.err _ _ hp with h3 | ⟨h2, hx⟩
    · rw [h3]
    · rw [hx q] at h1; simp at h1
  | inr y =>
    obtain ⟨a, r⟩ := y
    rw [Good.pFrame.ext _ _ _ q hp] at h1
    simp at h1
    exact absurd h1.2.2 hq
theorem sameFs_bare : ∀ {vs : List FV}, (∀ v ∈ vs, FR v) → sameFs vs (vs.map bareV)
  | [], _ => trivial
  | v :: vs, h => ⟨(h v (by simp)).1.2.1, sameFs_bare (fun u hu => h u (by simp [hu]))⟩
theorem sameV_symm {v u : FV} (h : sameV v u) : sameV u v := ⟨h.1.symm, h.2.1.symm, h.2.2.1.symm, h.2.2.2.1.symm, h.2.2.2.2.1.symm, h.2.2.2.2.2.1.symm, h.2.2.2.2.2.2.1.symm, h.2.2.2.2.2.2.2.symm⟩
theorem sameFs_symm : ∀ {a b : List FV}, sameFs a b → sameFs b a
  | [], [], _ => trivial
  | v :: vs, u :: us, h => ⟨sameV_symm h.1, sameFs_symm h.2⟩
  | [], _ :: _, h => h.elim
  | _ :: _, [], h => h.elim
/-- the first so many bytes: whole frames, or short -/
theorem pRead_cut : ∀ {vs : List FV} (k : Nat), (∀ v ∈ vs, FR v) → k ≤ (layFs vs).length →
    ∃ n, n ≤ vs.length ∧ (layFs (vs.take n)).length ≤ k ∧ (∀ h : n < vs.length, k < (layFs (vs.take (n + 1))).length) ∧ pRead k ((layFs vs).take k) = if (layFs (vs.take n)).length = k then .inr ((vs.take n).map bareV) else .inl 3
  | [], k, _, hk => by
    have : k = 0 := by simpa [layFs] using hk
    subst this
    exact ⟨0, Nat.le_refl _, by simp [layFs], by simp, by simp [layFs, pRead]⟩
  | v :: vs, k, h, hk => by
    have hv := h v (by simp)
    have h0 := lay1_pos hv
    simp only [layFs, List.length_append] at hk
    by_cases hlt : k < (lay1 v).length
    · refine ⟨0, by simp, by simp [layFs], fun _ => by simp [layFs]; exact hlt, ?_⟩
      simp only [List.take_zero, layFs, List.length_nil, List.map_nil]
      rw [List.take_append_of_le_length (by omega)]
      by_cases hk0 : 0 = k
      · subst hk0; rw [if_pos rfl]; rfl
      · rw [if_neg hk0]
        have hs := pFrame_short hv (p := (lay1 v).take k) (q := (lay1 v).drop k) (List.take_append_drop _ _) (by intro e; have := congrArg List.length e; simp at this; omega)
        obtain ⟨k', rfl⟩ : ∃ k', k = k' + 1 := ⟨k - 1, by omega⟩
        cases hl : (lay1 v).take (k' + 1) with
        | nil => have := congrArg List.length hl; simp only [List.length_take, List.length_nil] at this; omega
        | cons c t => rw [hl] at hs; simp only [pRead, hs]
    · obtain ⟨n, h1, h2, h3, h4⟩ := pRead_cut (vs := vs) (k - (lay1 v).length) (fun u hu => h u (by simp [hu])) (by omega)
      refine ⟨n + 1, by simp; omega, by simp [layFs]; omega, fun hh => by simp only [List.take_succ_cons, layFs, List.length_append]; have := h3 (by simpa using hh); omega, ?_⟩
      have ht : (layFs (v :: vs)).take k = lay1 v ++ (layFs vs).take (k - (lay1 v).length) := by
        simp only [layFs]; rw [List.take_append, List.take_of_length_le (by omega)]
      have hll : ((layFs vs).take (k - (lay1 v).length)).length = k - (lay1 v).length := by simp; omega
      rw [ht, pRead_step hv _ (by simp only [List.length_append, hll]; omega), hll, h4]
      simp only [List.take_succ_cons, layFs, List.length_append]
      by_cases hc : (layFs (List.take n vs)).length = k - (lay1 v).length
      · rw [if_pos hc, if_pos (by omega)]; rfl
      · rw [if_neg hc, if_neg (by omega)]
end Go.Proofs.Ythiccnmplgdheaa.T
