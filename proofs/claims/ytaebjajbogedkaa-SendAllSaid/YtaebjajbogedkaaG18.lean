/- Lemmas about the typed texts (joined: SSend1 SSend2 SSend3). -/
import Derived.Test.YtaebjajbogedkaaG15
import Derived.Test.YtaebjajbogedkaaG14
-- SEAT c
/- Chapter 13's stream, the writing side, over the typed texts: its row; the small functions. -/
set_option linter.unusedVariables false
set_option linter.unusedSimpArgs false
namespace Go.Proofs.Ytaebjajbogedkaa.T
open Go Go.Abs Go.Proofs
structure SS where
  limit : Int
  used : Int
  id : Int
  b : List UInt8
  lost : List Run
  came : List Run
  finished : Bool
  reset : Bool
  ft : Bool
  fd : Bool
  fc : Bool
  tt : Bool
  td : Bool
  tc : Bool
  code : Int
  sure : Int
def ssL (x : SS) (sb sl sc : Sl) : List Value := [.int .i64 x.limit, .int .i64 x.used, .int .i64 x.id, encSl sb, encSl sl, encSl sc, .bool x.finished, .bool x.reset, .bool x.ft, .bool x.fd, .bool x.fc, .bool x.tt, .bool x.td, .bool x.tc, .int .i64 x.code, .int .i64 x.sure]
/-- a stream's row at p, and what lies behind it; all of it at n0 or behind -/
structure StrA (n0 : Nat) (h : H) (p : Nat) (x : SS) (sb sl sc : Sl) : Prop where
  box : Box h p (ssL x sb sl sc)
  rb : RdB h sb x.b
  rl : RdR h sl x.lost
  rc : RdR h sc x.came
  nb : ∀ a, sb.base = some a → a.block ≠ p
  nl : ∀ a, sl.base = some a → a.block ≠ p
  nc : ∀ a, sc.base = some a → a.block ≠ p
  p0 : n0 ≤ p
def Strm (n0 : Nat) (h : H) (p : Nat) (x : SS) : Prop := ∃ sb sl sc, StrA n0 h p x sb sl sc
section
variable {n0 : Nat} {h h1 : H} {p : Nat} {x : SS} {sb sl sc : Sl}
theorem StrA.kx (w : WF h) (y : EX h h1) (S : StrA n0 h p x sb sl sc) : StrA n0 h1 p x sb sl sc := ⟨S.box.kx y, RdB.ex y S.rb, S.rl.ex y, S.rc.ex y, S.nb, S.nl, S.nc, S.p0⟩
theorem Strm.kx (w : WF h) (y : EX h h1) (S : Strm n0 h p x) : Strm n0 h1 p x := let ⟨sb, sl, sc, A⟩ := S; ⟨sb, sl, sc, A.kx w y⟩
/-- what lies behind the row is written, what was read stays -/
theorem StrA.kp (w : WF h) (k : KP h h1) (u : UP (fun A => p + 1 ≤ A) h h1) (S : StrA n0 h p x sb sl sc) : StrA n0 h1 p x sb sl sc := ⟨S.box.up w u (by omega), RdB.mono S.rb k, S.rl.mono k, S.rc.mono k, S.nb, S.nl, S.nc, S.p0⟩
theorem StrA.str (S : StrA n0 h p x sb sl sc) : Strm n0 h p x := ⟨sb, sl, sc, S⟩
theorem StrA.ofBox {x' : SS} {S' : Nat → Prop} (w : WF h) (S : StrA n0 h p x sb sl sc) (B : Box h1 p (ssL x' sb sl sc)) (u : UP (· = p) h h1) (eb : x'.b = x.b) (el : x'.lost = x.lost) (ec : x'.came = x.came) : StrA n0 h1 p x' sb sl sc :=
  ⟨B, by rw [eb]; exact Rd.up S.rb u S.nb, by rw [el]; exact Rd.up S.rl u S.nl, by rw [ec]; exact Rd.up S.rc u S.nc, S.nb, S.nl, S.nc, S.p0⟩
theorem StrA.st {α : Type} {Q : α → Prop} {f : H → Option α} {i : Nat} {v : Value} (S : StrA n0 h p x sb sl sc) (w : WF h) (x' : SS) (hi : i < 16) (ho : oneC v = true) (e : (ssL x sb sl sc).set i v = ssL x' sb sl sc) (eb : x'.b = x.b) (el : x'.lost = x.lost) (ec : x'.came = x.came)
    (k : ∀ h', StrA n0 h' p x' sb sl sc → UP (· = p) h h' → WF h' → PO (f h') Q) : PO (bindO (Abs.st1 h (add ⟨p, 0, some 0⟩ i) v) f) Q := by
  refine PO.st1 S.box w (by simpa [ssL] using hi) ho fun h' B u z w' => k h' ?_ u w'
  rw [e] at B
  exact S.ofBox (S' := fun _ => False) w B u eb el ec
theorem StrA.lost (S : StrA n0 h p x sb sl sc) : SetAt h p 4 (ssL x sb sl sc) x.lost := ⟨⟨sl, rfl, S.rl, S.nl⟩, S.box⟩
theorem StrA.came (S : StrA n0 h p x sb sl sc) : SetAt h p 5 (ssL x sb sl sc) x.came := ⟨⟨sc, rfl, S.rc, S.nc⟩, S.box⟩
theorem encSl_inj {s t : Sl} (e : encSl s = encSl t) : s = t := by
  unfold encSl at e
  cases s; cases t; cases e; rfl
theorem StrA.setLost {v : Value} {l : List Run} (w : WF h) (S : StrA n0 h p x sb sl sc) (T : SetAt h1 p 4 ((ssL x sb sl sc).set 4 v) l) (u : UP (· = p) h h1) : ∃ sl', StrA n0 h1 p { x with lost := l } sb sl' sc := by
  obtain ⟨s, e, r, n⟩ := T.ex
  have e1 : v = encSl s := by simpa [ssL] using e
  subst e1
  exact ⟨s, T.box, Rd.up S.rb u S.nb, r, Rd.up S.rc u S.nc, S.nb, n, S.nc, S.p0⟩
theorem StrA.setCame {v : Value} {l : List Run} (w : WF h) (S : StrA n0 h p x sb sl sc) (T : SetAt h1 p 5 ((ssL x sb sl sc).set 5 v) l) (u : UP (· = p) h h1) : ∃ sc', StrA n0 h1 p { x with came := l } sb sl sc' := by
  obtain ⟨s, e, r, n⟩ := T.ex
  have e1 : v = encSl s := by simpa [ssL] using e
  subst e1
  exact ⟨s, T.box, Rd.up S.rb u S.nb, Rd.up S.rl u S.nl, r, S.nb, S.nl, n, S.p0⟩
end
def ss0 (id : Int) : SS := ⟨400, 0, id, [], [], [], false, false, false, false, false, false, false, false, 0, 0⟩
theorem SNew_f {h : H} (w : WF h) (id : Int) : PO (send_New id h) (fun (a, h1) => a = some ⟨h.size, 0, some 0⟩ ∧ StrA h.size h1 h.size (ss0 id) ⟨none, 0, 0⟩ ⟨none, 0, 0⟩ ⟨none, 0, 0⟩ ∧ EX h h1) := by
  unfold send_New
  refine PO.newB w fun h1 x1 B1 z1 w1 => .ret ⟨rfl, ⟨B1, rd_nil 1 h1, rd_nil 2 h1, rd_nil 2 h1, fun a ha => by simp at ha, fun a ha => by simp at ha, fun a ha => by simp at ha, Nat.le_refl _⟩, x1⟩
def leftV (x : SS) : Int := max 0 (x.limit - x.used)
/-- numbers that may be, for the wraps -/
structure SRng (x : SS) : Prop where
  l0 : 0 ≤ x.limit ∧ x.limit ≤ 4611686018427387903
  u0 : 0 ≤ x.used ∧ x.used ≤ 4611686018427387903
  bl : x.b.length ≤ 4000
theorem Left_f {n0 : Nat} {h : H} {p : Nat} {x : SS} {sb sl sc : Sl} (S : StrA n0 h p x sb sl sc) (R : SRng x) : credit_Credit_Left (some ⟨p, 0, some 0⟩) h = some (leftV x, h) := by
  have := R.l0; have := R.u0
  unfold credit_Credit_Left
  rw [ptrK_some, S.box.ldI (i := 0) rfl, bindO_some, ptrK_some, S.box.ldI (i := 1) rfl, bindO_some, letO_eq, w64 (by omega) (by omega)]
  congr 2
  unfold leftV
  split <;> omega
theorem Use_f {n0 : Nat} {h : H} (w : WF h) {p : Nat} {x : SS} {sb sl sc : Sl} (S : StrA n0 h p x sb sl sc) (R : SRng x) {n : Int} (h0 : 0 ≤ n) (h1 : n ≤ leftV x) :
    PO (credit_Credit_Use (some ⟨p, 0, some 0⟩) n h) (fun (_, h') => StrA n0 h' p { x with used := x.used + n } sb sl sc ∧ UP (· = p) h h') := by
  have := R.l0; have := R.u0
  unfold credit_Credit_Use P.credit_Credit_Use
  have hl : leftV x ≤ 4611686018427387903 := by unfold leftV; omega
  refine PO.join (fun q => q = ((some ⟨p, 0, some 0⟩, (n, false)), h)) ?_ ?_
  · refine PO.condD (fun hc => absurd hc (by omega)) fun _ => PO.callE (Left_f S R) (.retL ?_)
    rw [decide_eq_false (by omega)]
  · rintro _ rfl
    refine PO.condF (PO.ptr (PO.ldI (i := 1) S.box rfl (PO.ptr ?_)))
    rw [w64 (by omega) (by omega)]
    exact S.st w { x with used := x.used + n } (by omega) rfl rfl rfl rfl rfl fun h' S' u w' => .ret ⟨S', u⟩
def raiseV (n : Int) (x : SS) : SS := if n ≤ x.limit ∨ n > 4611686018427387903 then x else { x with limit := n }
def mayS (x : SS) : Int := if x.reset then x.sure else x.b.length
theorem StrA.blen {n0 : Nat} {h : H} {p : Nat} {x : SS} {sb sl sc : Sl} (S : StrA n0 h p x sb sl sc) : sb.len = x.b.length := RdB.len S.rb
theorem mayS_f {n0 : Nat} {h : H} {p : Nat} {x : SS} {sb sl sc : Sl} (S : StrA n0 h p x sb sl sc) : PO (send_Stream_may (some ⟨p, 0, some 0⟩) h) (fun (a, h') => a = mayS x ∧ h' = h) := by
  unfold send_Stream_may mayS
  refine PO.ptr (PO.ldB (i := 7) S.box rfl (PO.cond (fun hc => PO.ptr (PO.ldI (i := 15) S.box rfl (.ret ⟨?_, rfl⟩))) fun hc => PO.ptr (PO.ldL (i := 3) S.box rfl (.ret ⟨?_, rfl⟩))))
  · rw [hc]; rfl
  · rw [hc, S.blen]; rfl
/-! a frame of some bytes -/
def endsV (x : SS) (to : Int) : Bool := x.finished && !x.reset && decide (to = x.b.length)
def sfr (x : SS) (f t : Int) : FV := ⟨3, x.id, f, 0, 0, 0, endsV x t, (x.b.drop f.toNat).take (t.toNat - f.toNat), []⟩
end Go.Proofs.Ytaebjajbogedkaa.T
-- SEAT c
/- Chapter 13's stream over the typed texts: frames of some bytes, as many as go in. -/
set_option linter.unusedVariables false
set_option linter.unusedSimpArgs false
namespace Go.Proofs.Ytaebjajbogedkaa.T
open Go Go.Abs Go.Proofs
theorem slB_mid2 {h : H} {s : Sl} {l : List UInt8} (hr : RdB h s l) {lo hi : Int} (h0 : 0 ≤ lo) (h1 : lo ≤ hi) (h2 : hi ≤ l.length) : ∃ s', slT 1 h s (some lo) (some hi) none = some s' ∧ RdB h s' ((l.drop lo.toNat).take (hi.toNat - lo.toNat)) := by
  obtain ⟨s', e, r, _, _⟩ := sl_lohi (lo := lo) (hi := hi) (by omega) (by unfold B63; omega) hr h0 h1 (by rw [RdB.len hr]; exact h2)
  refine ⟨s', e, ?_⟩
  unfold RdB vB
  rw [List.map_take, List.map_drop]
  simpa [vB] using r
/-- a frame whose bytes lie at n or behind, without spans -/
structure FrmA (n : Nat) (h : H) (a : F9) (v : FV) : Prop where
  rd : FRd h a v
  fr : Fr n a.2.2.2.2.2.2.2.1
  nil : a.2.2.2.2.2.2.2.2 = ⟨none, 0, 0⟩
theorem FrmA.ex {n : Nat} {h h1 : H} {a : F9} {v : FV} (x : EX h h1) (f : FrmA n h a v) : FrmA n h1 a v := ⟨f.rd.ex x, f.fr, f.nil⟩
theorem FrmA.mono {n m : Nat} {h : H} {a : F9} {v : FV} (f : FrmA n h a v) (hm : m ≤ n) : FrmA m h a v := ⟨f.rd, fun p hp => Nat.le_trans hm (f.fr p hp), f.nil⟩
theorem SFr_f {n0 : Nat} {h : H} (w : WF h) {p : Nat} {x : SS} {sb sl sc : Sl} (S : StrA n0 h p x sb sl sc) (hb : x.b.length ≤ 4000) {f t : Int} (h0 : 0 ≤ f) (h1 : f ≤ t) (h2 : t ≤ x.b.length) :
    PO (send_Stream_frame (some ⟨p, 0, some 0⟩) f t h) (fun (a, h') => FrmA h.size h' a (sfr x f t) ∧ EX h h') := by
  unfold send_Stream_frame P.send_Stream_frame
  refine PO.newB w fun g1 x1 B1 z1 w1 => ?_
  have S1 := S.kx w x1
  refine PO.join (fun q => q = ((some ⟨p, 0, some 0⟩, (f, (t, (some ⟨h.size, 0, some 0⟩, endsV x t)))), g1)) ?_ ?_
  · unfold endsV
    refine PO.ptr (PO.ldB (i := 6) S1.box rfl (PO.cond (fun hc => PO.ptr (PO.ldB (i := 7) S1.box rfl (PO.condN (fun hr => PO.ptr (PO.ldL (i := 3) S1.box rfl (.retL ?_))) fun hr => .retL ?_))) fun hc => .retL ?_))
    · rw [hc, hr, S1.blen]
      have : (t == ((x.b.length : Nat) : Int)) = decide (t = (x.b.length : Int)) := by by_cases h : t = (x.b.length : Int) <;> simp [h]
      rw [this]; rfl
    · rw [hc, hr]; rfl
    · rw [hc]; rfl
  · rintro _ rfl
    dsimp only
    refine PO.ptr (PO.ldI (i := 2) S1.box rfl (PO.ptr (PO.ldL (i := 3) S1.box rfl ?_)))
    obtain ⟨s', e', r'⟩ := slB_mid2 S1.rb h0 h1 h2
    refine PO.op e' ?_
    obtain ⟨s2, g2, e2, x2, b2, f2, _⟩ := clone_f w1 r' (by simp; omega)
    refine PO.callE e2 ?_
    obtain ⟨s3, e3, r3, f3⟩ := clipB_f b2.rd (by simp; omega)
    refine PO.callE e3 (PO.ptr ?_)
    have B2 := B1.kx x2
    have S2 := S1.kx w1 x2
    refine PO.stZ (zs := zF) (x := ((3, x.id, f, 0, 0, 0, endsV x t, s3, (⟨none, 0, 0⟩ : Sl)) : F9)) B2 x2.wf rfl rfl fun g4 B4 u4 z4 w4 => ?_
    have B4 : Box g4 h.size (f9L (3, x.id, f, 0, 0, 0, endsV x t, s3, ⟨none, 0, 0⟩)) := B4
    have hfr : Fr g1.size s3 := f3 _ f2
    refine PO.ldI (i := 2) S2.box rfl (.chk (by simp) (PO.ldI (i := 2) S2.box rfl (.chk (by simp) (PO.ptr (PO.ldF B4 (.ret ⟨⟨⟨⟨rfl, rfl, rfl, rfl, rfl, rfl, rfl⟩, ?_, rdR_nil g4⟩, fun a ha => ?_, rfl⟩, ?_⟩))))))
    · exact Rd.up r3 u4 fun a ha e => by have := hfr a ha; have e : a.block = h.size := e; omega
    · have := hfr a ha; omega
    · exact u4.ex0 (x1.trans x2) fun A hA e => by omega
/-- what a fitting frame is -/
def Fits (x : SS) (f to room u : Int) : Prop := f < u ∧ u ≤ to ∧ u ≤ f + 120 ∧ fszV (sfr x f u) ≤ room ∧ ∀ v, u < v → v ≤ to → v ≤ f + 120 → room < fszV (sfr x f v)
def NoFit (x : SS) (f to room : Int) : Prop := ∀ v, f < v → v ≤ to → v ≤ f + 120 → room < fszV (sfr x f v)
theorem sfr_sz (x : SS) (f t : Int) : (sfr x f t).data.length ≤ x.b.length := by unfold sfr; simp; omega
theorem fit_f {n0 : Nat} {h : H} (w : WF h) {p : Nat} {x : SS} {sb sl sc : Sl} (S : StrA n0 h p x sb sl sc) (hb : x.b.length ≤ 4000) {f to : Int} (room : Int) (h0 : 0 ≤ f) (hf : f ≤ 1000000) (h2 : to ≤ x.b.length) (h3 : -1000000 ≤ to) :
    PO (send_Stream_fit (some ⟨p, 0, some 0⟩) f to room h) (fun (q, h') => EX h h' ∧ ((q.2 = false ∧ NoFit x f to room) ∨ (q.2 = true ∧ ∃ u, Fits x f to room u ∧ FrmA h.size h' q.1 (sfr x f u)))) := by
  unfold send_Stream_fit P.send_Stream_fit
  refine PO.newB w fun g1 x1 B1 z1 w1 => ?_
  refine PO.join (fun q => ∃ (hh : H) (L : List Value), q = (some ⟨h.size, 0, some 0⟩, hh) ∧ EX h hh ∧ Box hh h.size L ∧ L.length = 9 ∧ NoFit x f to room) ?_ ?_
  · refine PO.letO ?_
    rw [w64 (n := f + 120) (by omega) (by omega)]
    have hmn : (if f + 120 < to then f + 120 else to) ≤ x.b.length := by split <;> omega
    refine PO.loop (fun n q => ∃ (t : Int) (hh : H) (L : List Value), q = ((some ⟨p, 0, some 0⟩, (f, (t, (room, some ⟨h.size, 0, some 0⟩)))), hh) ∧ n = (t + 2000000).toNat ∧ t ≤ x.b.length ∧ -1000000 ≤ t ∧ EX h hh ∧ Box hh h.size L ∧ L.length = 9 ∧ (∀ v, f < v → t < v → v ≤ to → v ≤ f + 120 → room < fszV (sfr x f v)) ∧ t ≤ to ∧ t ≤ f + 120) ?_ ((if f + 120 < to then f + 120 else to) + 2000000).toNat _ ⟨_, g1, _, rfl, rfl, hmn, by split <;> omega, x1, B1, rfl, fun v h1 h2 h3 h4 => by split at h2 <;> omega, by split <;> omega, by split <;> omega⟩
    rintro n _ ⟨t, hh, L, rfl, rfl, ht, ht3, y, B, hL, hv, ht1, ht2⟩
    unfold P.send_Stream_fit_l1
    dsimp only
    have Sy := S.kx w y
    refine PO.condD (fun hc => ?_) (fun hc => .retR ⟨hh, L, rfl, y, B, hL, fun v a b c => hv v a (by omega) b c⟩)
    refine PO.call (SFr_f y.wf Sy hb h0 (by omega) ht) ?_
    rintro ⟨a1, a2, a3, a4, a5, a6, a7, a8, a9⟩ g2 ⟨fa, x2⟩
    refine PO.boxF (x := (a1, a2, a3, a4, a5, a6, a7, a8, a9)) rfl x2.wf fun g3 x3 B3 z3 => PO.ldF B3 ?_
    have f3 := fa.ex x3
    have hdl := sfr_sz x f t
    refine PO.call (FSize_f x3.wf f3.rd (by omega) (by simp [sfr])) ?_
    rintro sz g4 ⟨e4, x4⟩
    have e4 : sz = _ := e4
    subst e4
    have y4 := ((y.trans x2).trans x3).trans x4
    have s2 := x2.size
    have s3 := x3.size
    refine PO.condD (fun hs => ?_) (fun hs => ?_)
    · refine PO.ldF (B3.kx x4) (PO.ptr (PO.stZ (zs := zF) (x := ((a1, a2, a3, a4, a5, a6, a7, a8, a9) : F9)) (B.kx ((x2.trans x3).trans x4)) y4.wf (by rw [hL]; rfl) rfl fun g5 B5 u5 z5 w5 => ?_))
      have B5 : Box g5 h.size (f9L (a1, a2, a3, a4, a5, a6, a7, a8, a9)) := B5
      refine PO.inr (PO.inr (PO.ptr (PO.ldF B5 (.ret ⟨?_, .inr ⟨rfl, t, ⟨hc, ht1, ht2, hs, fun v a b c => hv v (by omega) a b c⟩, ?_⟩⟩))))
      · refine u5.ex0 y4 fun A hA e => by omega
      · have f4 := f3.ex x4
        have e1 : (a9 : Sl) = ⟨none, 0, 0⟩ := f4.nil
        have hy := y.size
        have hbx := B.blt
        refine ⟨⟨f4.rd.e, Rd.up f4.rd.data u5 fun a ha e => ?_, ?_⟩, fun a ha => ?_, f4.nil⟩
        · have := f4.fr a ha; have e : a.block = h.size := e; omega
        · have := f4.rd.spans
          refine Rd.up this u5 fun a ha e => ?_
          have ha : a9.base = some a := ha
          rw [e1] at ha; cases ha
        · have := f4.fr a ha; omega
    · refine .retL ⟨_, ?_, t - 1, g4, L, ?_, rfl, by omega, by omega, y4, B.kx ((x2.trans x3).trans x4), hL, fun v a b c d => ?_, by omega, by omega⟩
      · omega
      · rw [w64 (n := t - 1) (by omega) (by omega)]
      · by_cases hvt : v = t
        · subst hvt; omega
        · exact hv v a (by omega) c d
  · rintro _ ⟨hh, L, rfl, y, B, hL, hn⟩
    refine PO.ptr (PO.stZ (zs := zF) (x := ((0, 0, 0, 0, 0, 0, false, (⟨none, 0, 0⟩ : Sl), (⟨none, 0, 0⟩ : Sl)) : F9)) B y.wf (by rw [hL]; rfl) rfl fun g5 B5 u5 z5 w5 => ?_)
    have B5 : Box g5 h.size (f9L (0, 0, 0, 0, 0, 0, false, ⟨none, 0, 0⟩, ⟨none, 0, 0⟩)) := B5
    exact PO.ptr (PO.ldF B5 (.ret ⟨u5.ex0 y fun A hA e => by omega, .inl ⟨rfl, hn⟩⟩))
end Go.Proofs.Ytaebjajbogedkaa.T
-- SEAT c
/- Chapter 13's stream over the typed texts: the next frame. -/
set_option linter.unusedVariables false
set_option linter.unusedSimpArgs false
namespace Go.Proofs.Ytaebjajbogedkaa.T
open Go Go.Abs Go.Proofs
def FitR (x : SS) (f to room : Int) (n : Nat) (h' : H) (q : F9 × Bool) : Prop := (q.2 = false ∧ NoFit x f to room) ∨ (q.2 = true ∧ ∃ u, Fits x f to room u ∧ FrmA n h' q.1 (sfr x f u))
theorem FitR.mono {x : SS} {f to room : Int} {n m : Nat} {h' : H} {q : F9 × Bool} (r : FitR x f to room n h' q) (hm : m ≤ n) : FitR x f to room m h' q := by
  rcases r with r | ⟨e, u, hu, fa⟩
  · exact .inl r
  · exact .inr ⟨e, u, hu, fa.mono hm⟩
/-- a run that is lost and may go: the first one -/
def firstR (m : Int) : List Run → Option Run
  | [] => none
  | r :: l => if r.1 < m then some r else firstR m l
def topV (x : SS) (most : Int) : Int := min (mayS x) (x.used + max 0 (min most (leftV x)))
def finV (x : SS) (room : Int) : Prop := endsV x x.b.length = true ∧ x.used = x.b.length ∧ x.fd = true ∧ fszV (sfr x x.b.length x.b.length) ≤ room
/-- what next hands back -/
def NextV (x : SS) (room most : Int) (n : Nat) (h' : H) (q : F9 × Bool) : Prop := match firstR (mayS x) x.lost with
  | some r => FitR x r.1 (min r.2 (mayS x)) room n h' q
  | none => if x.used < topV x most then FitR x x.used (topV x most) room n h' q else
      (q.2 = true ∧ finV x room ∧ FrmA n h' q.1 (sfr x x.b.length x.b.length)) ∨ (q.2 = false ∧ ¬ finV x room)
structure SOK (x : SS) : Prop where
  rng : SRng x
  nrl : Nrm (-1) x.used x.lost
  sure : 0 ≤ x.sure ∧ x.sure ≤ x.b.length
  ub : x.used ≤ x.b.length
theorem SOK.may {x : SS} (K : SOK x) : 0 ≤ mayS x ∧ mayS x ≤ x.b.length := by
  unfold mayS; have := K.sure; split <;> omega
theorem SOK.lostLen {x : SS} (K : SOK x) : x.lost.length ≤ 5000 := by
  have h1 := Nrm.length K.nrl (by have := K.rng.u0; omega)
  have h2 := K.ub; have h3 := K.rng.bl
  omega
theorem box2 {h : H} {b : Nat} {r1 r2 : Int} {α : Type} {Q : α → Prop} {f : Int → Option α} (B : Box h b [.int .i64 r1, .int .i64 r2]) : (PO (f r1) Q → PO (bindO (Abs.ldI .i64 h (add ⟨b, 0, some 0⟩ ((0 : Int).toNat * 1))) f) Q) ∧ (PO (f r2) Q → PO (bindO (Abs.ldI .i64 h (add ⟨b, 0, some 0⟩ ((1 : Int).toNat * 1))) f) Q) :=
  ⟨fun p => PO.ldI (i := 0) B rfl p, fun p => PO.ldI (i := 1) B rfl p⟩
theorem mayS_e {n0 : Nat} {h : H} {p : Nat} {x : SS} {sb sl sc : Sl} (S : StrA n0 h p x sb sl sc) : send_Stream_may (some ⟨p, 0, some 0⟩) h = some (mayS x, h) := by
  obtain ⟨⟨a, h'⟩, e, e1, e2⟩ := mayS_f S
  have e1 : a = mayS x := e1
  have e2 : h' = h := e2
  rw [e, e1, e2]
theorem next_f {n0 : Nat} {h : H} (w : WF h) {p : Nat} {x : SS} {sb sl sc : Sl} (S : StrA n0 h p x sb sl sc) (K : SOK x) (room most : Int) (hm : -1000000 ≤ most ∧ most ≤ 1000000) :
    PO (send_Stream_next (some ⟨p, 0, some 0⟩) room most h) (fun (q, h') => EX h h' ∧ NextV x room most h.size h' q) := by
  have hmay := K.may
  have hll := K.lostLen
  have hbl := K.rng.bl
  unfold send_Stream_next P.send_Stream_next
  refine PO.newB w fun g1 x1 B1 z1 w1 => ?_
  have S1 := S.kx w x1
  refine PO.join (fun q => ∃ (hh : H) (L : List Value), q = ((some ⟨p, 0, some 0⟩, (room, (most, some ⟨h.size, 0, some 0⟩))), hh) ∧ EX h hh ∧ Box hh h.size L ∧ L.length = 9 ∧ firstR (mayS x) x.lost = none) ?_ ?_
  · refine PO.ptr (PO.call (Spans_f w1 S1.lost (by omega)) ?_)
    rintro sp g2 ⟨o2, x2, f2⟩
    have hlen := RdR.len o2.rd
    have x12 := x1.trans x2
    have B2 := B1.kx x2
    refine PO.loop (fun n q => ∃ (j : Nat) (hh : H), q = ((some ⟨p, 0, some 0⟩, (room, (most, (some ⟨h.size, 0, some 0⟩, (sp, ((x.lost.length : Int), (j : Int))))))), hh) ∧ n = x.lost.length - j ∧ j ≤ x.lost.length ∧ EX g2 hh ∧ firstR (mayS x) x.lost = firstR (mayS x) (x.lost.drop j)) ?_ x.lost.length _ ⟨0, g2, by rw [hlen]; rfl, rfl, by omega, EX.refl x2.wf, rfl⟩
    rintro n _ ⟨j, hh, rfl, rfl, hj, y, hfr⟩
    unfold P.send_Stream_next_l1
    dsimp only
    refine PO.condD (fun hc => ?_) (fun hc => ?_)
    · have hjl : j < x.lost.length := by omega
      rw [List.drop_eq_getElem_cons hjl, firstR] at hfr
      refine PO.ixR (o2.rd.ex y) (by omega) (by omega) fun a c hb ha e1 e2 e3 => PO.op e1 ?_
      rw [show ((j : Int)).toNat = j from rfl, show x.lost.getD j (0, 0) = x.lost[j] by simp [List.getD_eq_getElem?_getD, hjl]]
      have hrm : x.lost[j] ∈ x.lost := List.getElem_mem hjl
      generalize x.lost[j] = r at *
      obtain ⟨r1, r2⟩ := r
      have hr := K.nrl.low _ hrm
      simp only at hr hfr
      refine PO.newB y.wf fun g3 x3 B3 z3 w3 => PO.stZ (zs := [.int .i64, .int .i64]) (x := ((r1, r2) : Int × Int)) B3 w3 rfl rfl fun g4 B4 u4 z4 w4 => ?_
      have B4 : Box g4 hh.size [.int .i64 r1, .int .i64 r2] := B4
      have y4 : EX hh g4 := u4.ex0 x3 fun A hA e => by omega
      refine PO.ixA (by omega) (by omega) ((box2 B4).1 ?_)
      have S4 := ((S1.kx w1 x2).kx x2.wf y).kx y.wf y4
      refine PO.callE (mayS_e S4) ?_
      refine (box2 B4).1 (.chk (by simp) ?_)
      refine PO.condD (fun hlt => ?_) (fun hge => ?_)
      · rw [if_pos hlt] at hfr
        refine PO.ixA (by omega) (by omega) ((box2 B4).1 (PO.ixA (by omega) (by omega) ((box2 B4).2 ?_)))
        refine PO.callE (mayS_e S4) ?_
        have emin : (if mayS x < r2 then mayS x else r2) = min r2 (mayS x) := by omega
        rw [emin]
        refine PO.call (fit_f w4 S4 (by omega) room (by omega) (by have := K.ub; omega) (by omega) (by omega)) ?_
        rintro ⟨⟨a1, a2, a3, a4, a5, a6, a7, a8, a9⟩, ok⟩ g5 ⟨x5, hq⟩
        have Bx := B2.kx ((y.trans y4).trans x5)
        refine PO.ptr (PO.stZ (zs := zF) (x := ((a1, a2, a3, a4, a5, a6, a7, a8, a9) : F9)) Bx x5.wf rfl rfl fun g6 B6 u6 z6 w6 => ?_)
        have B6 : Box g6 h.size (f9L (a1, a2, a3, a4, a5, a6, a7, a8, a9)) := B6
        refine (box2 B4).2 (.chk (by simp) ((box2 B4).1 (.chk (by simp) (PO.inr (PO.inr (PO.ptr (PO.ldF B6 (.ret ⟨?_, ?_⟩))))))))
        · exact u6.ex0 (((x12.trans y).trans y4).trans x5) fun A hA e => by omega
        · unfold NextV
          rw [hfr]
          have hsz : h.size < g4.size := by have := x12.size; have := y.size; have := y4.size; have := B1.blt; have := x2.size; omega
          rcases hq with ⟨e, hn⟩ | ⟨e, u, hu, fa⟩
          · exact .inl ⟨e, hn⟩
          · refine .inr ⟨e, u, hu, ⟨⟨fa.rd.e, Rd.up fa.rd.data u6 fun a ha e => ?_, ?_⟩, fun a ha => ?_, fa.nil⟩⟩
            · have := fa.fr a ha; have e : a.block = h.size := e; omega
            · refine Rd.up fa.rd.spans u6 fun a ha e => ?_
              have e1 := fa.nil
              have ha : a9.base = some a := ha
              have e1 : a9 = ⟨none, 0, 0⟩ := e1
              rw [e1] at ha; cases ha
            · have := fa.fr a ha; omega
      · rw [if_neg hge] at hfr
        refine .retL ⟨_, ?_, j + 1, g4, ?_, rfl, by omega, y.trans y4, hfr⟩
        · omega
        · rw [w64 (n := (j : Int) + 1) (by omega) (by omega)]; rfl
    · have : j = x.lost.length := by omega
      subst this
      rw [List.drop_length] at hfr
      exact .retR ⟨hh, _, rfl, x12.trans y, B2.kx y, rfl, hfr⟩
  · rintro _ ⟨hh, L, rfl, y, B, hL, hn⟩
    have Sy := S.kx w y
    have R := K.rng
    dsimp only
    simp only [add_add]
    have hle : leftV x ≤ 4611686018427387903 := by have := R.l0; have := R.u0; unfold leftV; omega
    have hl0 : 0 ≤ leftV x := by unfold leftV; omega
    have hu := K.ub
    have hu0 := R.u0
    refine PO.callE (mayS_e Sy) ?_
    refine PO.ptr (PO.ldI (i := 0 + 1) Sy.box rfl (PO.ptr ?_))
    rw [addA_zero]
    refine PO.callE (Left_f Sy R) (PO.letO (PO.letO ?_))
    have e4 : (if (if leftV x < most then leftV x else most) > 0 then (if leftV x < most then leftV x else most) else 0) = max 0 (min most (leftV x)) := by split <;> split <;> omega
    rw [e4]
    have hmx : 0 ≤ max 0 (min most (leftV x)) ∧ max 0 (min most (leftV x)) ≤ 1000000 := by omega
    have e5 : (if IntKind.wrap .i64 (x.used + max 0 (min most (leftV x))) < mayS x then IntKind.wrap .i64 (x.used + max 0 (min most (leftV x))) else mayS x) = topV x most := by
      rw [w64 (by omega) (by omega)]; unfold topV; split <;> omega
    rw [e5]
    have ht : topV x most ≤ x.b.length ∧ -1000000 ≤ topV x most := by unfold topV; omega
    refine PO.ldI (i := 0 + 1) Sy.box rfl (.chk (by simp) (PO.ldI (i := 0 + 1) Sy.box rfl (.chk (by simp) (PO.ptr (PO.ldI (i := 0 + 1) Sy.box rfl (PO.condD (fun hgt => ?_) (fun hle' => ?_)))))))
    · refine PO.ptr (PO.ldI (i := 0 + 1) Sy.box rfl ?_)
      refine PO.call (fit_f y.wf Sy (by omega) room (by omega) (by omega) (by omega) (by omega)) ?_
      rintro ⟨⟨a1, a2, a3, a4, a5, a6, a7, a8, a9⟩, ok⟩ g5 ⟨x5, hq⟩
      refine PO.ptr (PO.stZ (zs := zF) (x := ((a1, a2, a3, a4, a5, a6, a7, a8, a9) : F9)) (B.kx x5) x5.wf (by rw [hL]; rfl) rfl fun g6 B6 u6 z6 w6 => ?_)
      have B6 : Box g6 h.size (f9L (a1, a2, a3, a4, a5, a6, a7, a8, a9)) := B6
      refine PO.ptr (PO.ldF B6 (.ret ⟨u6.ex0 (y.trans x5) fun A hA e => by omega, ?_⟩))
      unfold NextV
      rw [hn]
      simp only
      rw [if_pos hgt]
      have hsz : h.size < hh.size := B.blt
      rcases hq with ⟨e, hn⟩ | ⟨e, u, hu, fa⟩
      · exact .inl ⟨e, hn⟩
      · refine .inr ⟨e, u, hu, ⟨⟨fa.rd.e, Rd.up fa.rd.data u6 fun a ha e => ?_, ?_⟩, fun a ha => ?_, fa.nil⟩⟩
        · have := fa.fr a ha; have e : a.block = h.size := e; omega
        · refine Rd.up fa.rd.spans u6 fun a ha e => ?_
          have ha : a9.base = some a := ha
          have e1 : a9 = ⟨none, 0, 0⟩ := fa.nil
          rw [e1] at ha; cases ha
        · have := fa.fr a ha; omega
    · refine PO.join (fun q => ∃ g6, q = (some ⟨h.size, 0, some 0⟩, g6) ∧ EX hh g6 ∧ ¬ finV x room) ?_ ?_
      · refine PO.ptr (PO.letGrow y.wf fun g1 x1' z1' w1' non1 => ?_)
        have S6 := Sy.kx y.wf x1'
        refine PO.ldL (i := 3) S6.box rfl (PO.ptr (PO.ldL (i := 3) S6.box rfl ?_))
        rw [S6.blen]
        refine PO.call (SFr_f w1' S6 (by omega) (f := (x.b.length : Int)) (t := (x.b.length : Int)) (by omega) (by omega) (by omega)) ?_
        rintro ⟨a1, a2, a3, a4, a5, a6, a7, a8, a9⟩ g7 ⟨fa, x7⟩
        have y7 := x1'.trans x7
        refine PO.addNew x7.wf (by decide) (x7.nn (by omega) (non1 12 (by omega))) (by have := x7.size; omega) (by have := x7.nro; have := x1'.nro; have := y.wf.nro; omega) fun g8 n8 B8 => PO.addNil ?_
        have y8 : EX hh g8 := n8.ex0 y7 (by omega)
        refine PO.stZ (zs := zF) (x := ((a1, a2, a3, a4, a5, a6, a7, a8, a9) : F9)) B8 n8.wf rfl rfl fun g9 B9 u9 z9 w9 => ?_
        have B9 : Box g9 (hh.size + 12) (f9L (a1, a2, a3, a4, a5, a6, a7, a8, a9)) := B9
        have y9 : EX hh g9 := u9.ex0 y8 fun A hA e => by omega
        refine PO.addOld B9.ne (PO.addNil (PO.letTick w9 fun g11 x11 z11 w11 => ?_))
        have B11 := B9.kx x11
        have y11 := y9.trans x11
        have S11 := Sy.kx y.wf y11
        have fa9 : FrmA hh.size g11 (a1, a2, a3, a4, a5, a6, a7, a8, a9) (sfr x x.b.length x.b.length) := by
          have hs1 : hh.size + 14 = g1.size := by omega
          refine ⟨⟨fa.rd.e, RdB.ex x11 (Rd.up (n8.kr fa.rd.data) u9 fun a ha e => ?_), ?_⟩, fun a ha => ?_, fa.nil⟩
          · have := fa.fr a ha; have e : a.block = hh.size + 12 := e; omega
          · have e1 : a9 = ⟨none, 0, 0⟩ := fa.nil
            show RdR g11 a9 []
            rw [e1]; exact rdR_nil g11
          · have := fa.fr a ha; omega
        have e7 : a7 = endsV x x.b.length := fa9.rd.e.2.2.2.2.2.2
        have noF : ∀ {P : Prop}, ¬ P → (finV x room → P) → ¬ finV x room := fun h g k => h (g k)
        refine PO.ldB (i := 6) B11 rfl (PO.cond (fun h7 => ?_) (fun h7 => .retL ⟨g11, rfl, y11, fun k => by rw [e7, k.1] at h7; cases h7⟩))
        refine PO.ptr (PO.ldI (i := 0 + 1) S11.box rfl (PO.ptr (PO.ldL (i := 3) S11.box rfl ?_)))
        rw [S11.blen]
        refine PO.condE (fun hub => ?_) (fun hub => .retL ⟨g11, rfl, y11, fun k => hub k.2.1⟩)
        refine PO.ptr (PO.ldB (i := 8 + 1) S11.box rfl (PO.cond (fun hfd => ?_) (fun hfd => .retL ⟨g11, rfl, y11, fun k => by rw [k.2.2.1] at hfd; cases hfd⟩)))
        refine PO.ldF B11 ?_
        refine PO.call (FSize_f w11 fa9.rd (by have := sfr_sz x x.b.length x.b.length; omega) (by simp [sfr])) ?_
        rintro sz g12 ⟨e12, x12⟩
        have e12 : sz = _ := e12
        subst e12
        refine PO.condD (fun hs => ?_) (fun hs => .retL ⟨g12, rfl, y11.trans x12, fun k => hs k.2.2.2⟩)
        have B12 := B11.kx x12
        refine PO.ldF B12 (PO.ptr (PO.stZ (zs := zF) (x := ((a1, a2, a3, a4, a5, a6, a7, a8, a9) : F9)) (B.kx (y11.trans x12)) x12.wf (by rw [hL]; rfl) rfl fun g13 B13 u13 z13 w13 => ?_))
        have B13 : Box g13 h.size (f9L (a1, a2, a3, a4, a5, a6, a7, a8, a9)) := B13
        refine PO.inr (PO.ptr (PO.ldF B13 (.ret ⟨u13.ex0 ((y.trans y11).trans x12) fun A hA e => by omega, ?_⟩)))
        unfold NextV
        rw [hn]
        simp only
        rw [if_neg hle']
        have hsz : h.size < hh.size := B.blt
        have fa12 := fa9.ex x12
        refine .inl ⟨trivial, ⟨by rw [← e7]; exact h7, hub, hfd, hs⟩, ⟨fa12.rd.e, Rd.up fa12.rd.data u13 fun a ha e => ?_, ?_⟩, fun a ha => ?_, fa12.nil⟩
        · have := fa12.fr a ha; have e : a.block = h.size := e; omega
        · have e1 : a9 = ⟨none, 0, 0⟩ := fa12.nil
          show RdR g13 a9 []
          rw [e1]; exact rdR_nil g13
        · have := fa12.fr a ha; omega
      · rintro _ ⟨g6, rfl, y6, hnf⟩
        dsimp only
        refine PO.ptr (PO.stZ (zs := zF) (x := ((0, 0, 0, 0, 0, 0, false, (⟨none, 0, 0⟩ : Sl), (⟨none, 0, 0⟩ : Sl)) : F9)) (B.kx y6) y6.wf (by rw [hL]; rfl) rfl fun g7 B7 u7 z7 w7 => ?_)
        have B7 : Box g7 h.size (f9L (0, 0, 0, 0, 0, 0, false, ⟨none, 0, 0⟩, ⟨none, 0, 0⟩)) := B7
        refine PO.ptr (PO.ldF B7 (.ret ⟨u7.ex0 (y.trans y6) fun A hA e => by omega, ?_⟩))
        unfold NextV
        rw [hn]
        simp only
        rw [if_neg hle']
        exact .inr ⟨trivial, hnf⟩
end Go.Proofs.Ytaebjajbogedkaa.T
