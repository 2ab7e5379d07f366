/- Lemmas about the typed texts (joined: LSendF). -/
import Derived.Test.YtaebjajbogedkaaG19
import Derived.Test.YtaebjajbogedkaaG17
-- SEAT c
/- The law SendFresh over the typed texts. -/
set_option linter.unusedVariables false
set_option linter.unusedSimpArgs false
namespace Go.Proofs.Ytaebjajbogedkaa.T
open Go Go.Abs Go.Proofs
/-! rows as slices of calls, frames -/
theorem PO.boxZ {α : Type} {Q : α → Prop} {h : H} {zs : List Z} {x : ZT zs} {t : Nat} {L : List Value} {f : Nat → H → Option α} (hl : zs.length = L.length) (hn : noAny zs = true) (w : WF h) (p : ∀ h2, EX h h2 → Box h2 h.size (encL zs x) → PO (f h.size h2) Q) :
    PO (newO (row t L) h fun (b : Nat) (h1 : H) => bindO (Abs.stZ zs h1 ⟨b, 0, some 0⟩ x) fun (h2 : H) => f b h2) Q := by
  refine PO.newB w fun h1 x1 B1 z1 w1 => ?_
  refine PO.stZ (zs := zs) (x := x) B1 w1 hl hn fun h2 B2 u2 z2 w2 => ?_
  exact p h2 (u2.ex0 x1 fun A hA e => by omega) B2
def zD4 : List Z := [.int .i64, .int .i64, .int .i64, .int .i64, .sl]
theorem PO.ixD4 {α : Type} {Q : α → Prop} {h : H} {s : Sl} {xs : List F5} {j : Int} {g : Addr → Option α} (r : Rd 5 h s (csD4 xs)) (h0 : 0 ≤ j) (h1 : j < xs.length)
    (p : ∀ a x, xs[j.toNat]? = some x → Abs.ldZ zD4 h a = some x → PO (g a) Q) : PO (bindO (ixT 5 s j) g) Q := by
  have hl := r.len
  rw [csD4_length] at hl
  obtain ⟨a, ha, e⟩ := ixT_ok r h0 (by omega)
  have hj : j.toNat < xs.length := by omega
  have hx : xs[j.toNat]? = some xs[j.toNat] := List.getElem?_eq_getElem hj
  have hc : ∀ q, q < 5 → ∀ v, (f5L xs[j.toNat])[q]? = some v → ldCell h (add (add a (j.toNat * 5)) q) = some v := by
    intro q hq v hv
    rw [add_add]
    refine (r.ld a ha _ v ?_).2
    rw [csD4_get _ _ _ hq, hx]; exact hv
  refine .op e (p _ _ hx (ldZ_of (zs := zD4) ?_))
  exact ldCells_of (f5L xs[j.toNat]) _ fun i v hi => hc i (List.getElem?_eq_some_iff.1 hi).1 v hi
theorem PO.ixFs {α : Type} {Q : α → Prop} {h : H} {s : Sl} {fs : List F9} {j : Int} {g : Addr → Option α} (r : Rd 9 h s (fsV fs)) (h0 : 0 ≤ j) (h1 : j < fs.length)
    (p : ∀ a x, x ∈ fs → Abs.ldZ zF h a = some x → PO (g a) Q) : PO (bindO (ixT 9 s j) g) Q := by
  have hl := r.len
  rw [fsV_length] at hl
  obtain ⟨a, ha, e⟩ := ixT_ok r h0 (by omega)
  have hj : j.toNat < fs.length := by omega
  refine .op e (p _ (fs.getD j.toNat f90) (getD_mem _ _ hj) (r.ldZat ha _ zF _ ?_))
  exact fsV_get fs j.toNat hj
theorem brg_id' {n : Int} (h : 0 ≤ n ∧ n ≤ 4611686018427387904) : brg n = n := by unfold brg; omega
/-! the pure invariant -/
structure FInv (x : SS) (N : Nat) : Prop where
  ok : SOK x
  id : x.id = 3
  len : x.b.length = N
  fin : x.finished = false
  rst : x.reset = false
  came : x.came = []
  ul : x.used ≤ x.limit
structure FOK (x : SS) (v : FV) : Prop where
  k : v.kind = 3
  id : v.id = 3
  fin : v.fin = false
  off : 0 ≤ v.off
  d1 : 1 ≤ v.data.length
  d2 : v.data.length ≤ 4000
  to : v.off + v.data.length ≤ x.used
theorem FOK.sm {x : SS} {N : Nat} (I : FInv x N) {v : FV} (f : FOK x v) : FSm v := ⟨by have := f.off; have := f.to; have := I.ok.rng.u0; omega, by have := f.d2; omega⟩
theorem FOK.mono {x y : SS} {v : FV} (f : FOK x v) (h : x.used ≤ y.used) : FOK y v := ⟨f.k, f.id, f.fin, f.off, f.d1, f.d2, Int.le_trans f.to h⟩
theorem FInv.raise {x : SS} {N : Nat} (I : FInv x N) (n : Int) : FInv (raiseV n x) N ∧ (raiseV n x).used = x.used := by
  unfold raiseV
  split
  · exact ⟨I, rfl⟩
  · rename_i h
    have := I.ok.rng.l0
    exact ⟨⟨⟨⟨by show 0 ≤ n ∧ n ≤ _; omega, I.ok.rng.u0, I.ok.rng.bl⟩, I.ok.nrl, I.ok.sure, I.ok.ub⟩, I.id, I.len, I.fin, I.rst, I.came, by show x.used ≤ n; have := I.ul; omega⟩, rfl⟩
theorem addS_nrm {l : List Run} {e f t : Int} (h : Nrm (-1) e l) (he : e ≤ 4611686018427387904) (hf : 0 ≤ f) (ht : t ≤ e) : Nrm (-1) e (addS f t l) := by
  unfold addS
  split
  · rename_i hlt
    have h1 : brg f = f := by unfold brg at hlt ⊢; omega
    have h2 : brg t = t := by unfold brg at hlt ⊢; omega
    rw [h1, h2] at hlt ⊢
    exact addR_nrm _ _ _ _ _ h (by omega) hlt ht
  · exact h
theorem dropS_nrm {l : List Run} {lo e f t : Int} (h : Nrm lo e l) : Nrm lo e (dropS f t l) := by
  unfold dropS
  split
  · exact dropR_nrm _ _ _ _ _ h (by assumption)
  · exact h
theorem FInv.lost {x : SS} {N : Nat} (I : FInv x N) {v : FV} (f : FOK x v) : FInv (lostS x v) N ∧ (lostS x v).used = x.used := by
  have hu := I.ok.rng.u0
  have := f.to; have := f.off; have := f.d1
  have e1 : sentV x v = (v.off, v.off + v.data.length) := by
    unfold sentV; rw [if_neg (by omega)]; congr 1; omega
  have hv2 : v.off + v.data.length ≤ 4611686018427387903 := by omega
  have e2 : gapS v.off (v.off + v.data.length) x.came = [(v.off, v.off + v.data.length)] := by
    unfold gapS; rw [I.came, brg_id' (n := v.off) ⟨f.off, by omega⟩, brg_id' (n := v.off + v.data.length) ⟨by omega, by omega⟩, gapR, if_pos (show v.off < v.off + (v.data.length : Int) by omega)]
  have e3 : endedV x v = false := by unfold endedV; rw [f.fin]; rfl
  have e4 : lostS x v = { x with lost := addS v.off (v.off + v.data.length) x.lost } := by
    unfold lostS
    rw [if_neg (by rw [f.id, I.id]; simp), if_pos f.k, e1, e2, e3]; rfl
  rw [e4]
  have hnr : Nrm (-1) x.used (addS v.off (v.off + v.data.length) x.lost) := addS_nrm I.ok.nrl (by omega) (by omega) (by omega)
  exact ⟨⟨⟨⟨I.ok.rng.l0, I.ok.rng.u0, I.ok.rng.bl⟩, hnr, I.ok.sure, I.ok.ub⟩, I.id, I.len, I.fin, I.rst, I.came, I.ul⟩, rfl⟩
theorem FInv.next {x : SS} {N : Nat} (I : FInv x N) {room most f u : Int} (h : PickV x room most f u) : FInv (nextX x f u) N ∧ FOK (nextX x f u) (sfr x f u) ∧ f < u := by
  have P := h.picked I.ok
  have hu := I.ok.rng.u0; have hl := I.ok.rng.l0; have hbl := I.ok.rng.bl
  have hends : ∀ t, endsV x t = false := fun t => by unfold endsV; rw [I.fin]; rfl
  have hfu : f < u := by
    rcases P.len with h | ⟨_, _, _, h, _⟩
    · exact h
    · rw [hends] at h; cases h
  have hfr := P.fresh
  have hub := P.ub
  have hf0 := P.f0
  have hlen := sfr_len (x := x) P.f0 P.fu P.ub
  have hnrl : Nrm (-1) (max x.used u) (dropS f u x.lost) := (dropS_nrm I.ok.nrl).mono (Int.le_refl _) (by omega)
  have hxu := I.ok.ub
  have hul := I.ul
  have hused : max x.used u ≤ x.limit := by unfold leftV at hfr; omega
  refine ⟨⟨⟨⟨hl, ⟨by show 0 ≤ max x.used u; omega, by show max x.used u ≤ 4611686018427387903; omega⟩, hbl⟩, hnrl, I.ok.sure, by show max x.used u ≤ (x.b.length : Int); omega⟩, I.id, I.len, I.fin, I.rst, I.came, hused⟩, ⟨rfl, I.id, hends u, hf0, by omega, by omega, ?_⟩, hfu⟩
  show f + _ ≤ max x.used u
  omega
/-! the calls -/
structure FI (h0 hh : H) (p N : Nat) (x : SS) (sent : Sl) (m : Nat) : Prop where
  ex : EX h0 hh
  str : ∃ sb sl sc, StrA h0.size hh p x sb sl sc
  inv : FInv x N
  sent : ∃ fs : List F9, Buf 9 hh sent (fsV fs) ∧ Fr (p + 1) sent ∧ fs.length ≤ m ∧ ∀ f ∈ fs, ∃ v, FHd f v ∧ FOK x v
theorem FI.kx {h0 hh h1 : H} {p N m : Nat} {x : SS} {sent : Sl} (T : FI h0 hh p N x sent m) (y : EX hh h1) : FI h0 h1 p N x sent m := by
  obtain ⟨sb, sl, sc, S⟩ := T.str
  obtain ⟨fs, b, f, l, g⟩ := T.sent
  exact ⟨T.ex.trans y, ⟨sb, sl, sc, S.kx T.ex.wf y⟩, T.inv, fs, b.ex T.ex.wf y, f, l, g⟩
theorem FI.upd {h0 hh h1 : H} {p N m : Nat} {x y : SS} {sent : Sl} (T : FI h0 hh p N x sent m) (u : UP (· = p) hh h1) (S : ∃ sb sl sc, StrA h0.size h1 p y sb sl sc) (I : FInv y N) (hu : x.used ≤ y.used) : FI h0 h1 p N y sent m := by
  obtain ⟨fs, b, f, l, g⟩ := T.sent
  obtain ⟨_, _, _, A⟩ := T.str
  refine ⟨u.ex0 T.ex fun B hB e => by have := A.p0; omega, S, I, fs, Buf.up T.ex.wf b u fun a ha e => ?_, f, l, fun q hq => let ⟨v, h1, h2⟩ := g q hq; ⟨v, h1, h2.mono hu⟩⟩
  have := f a ha; have e : a.block = p := e; omega
set_option maxHeartbeats 4000000 in
theorem fresh_l1 {h0 : H} (w0 : WF h0) {calls : Sl} {xs : List F5} (r : Rd 5 h0 calls (csD4 xs)) (hn : xs.length ≤ 1048576) {p N : Nat} (hN : N ≤ 900) :
    ∀ n s, (∃ (j : Nat) (hh : H) (x : SS) (sent : Sl), s = ((some ⟨p, 0, some 0⟩, ((N : Int), (sent, (calls, ((xs.length : Int), (j : Int)))))), hh) ∧ n = xs.length - j ∧ j ≤ xs.length ∧ FI h0 hh p N x sent j) →
    PO (loopO law13_SendFresh_l1 s) (fun q => q.1 = true) := by
  refine PO.loop _ ?_
  rintro n _ ⟨j, hh, x, sent, rfl, rfl, hj, T⟩
  unfold law13_SendFresh_l1 P.law13_SendFresh_l1
  dsimp only
  refine PO.condD (fun hc => ?_) (fun hc => .retR rfl)
  refine PO.join (fun q => ∃ (h2 : H) (y : SS) (sent' : Sl), q = ((some ⟨p, 0, some 0⟩, ((N : Int), (sent', (calls, ((xs.length : Int), (j : Int)))))), h2) ∧ FI h0 h2 p N y sent' (j + 1)) ?_ ?_
  · simp only [add_add]
    have w := T.ex.wf
    refine PO.ixD4 (r.ex T.ex) (by omega) (by omega) fun a c hc1 e1 => PO.op e1 ?_
    obtain ⟨c1, c2, c3, c4, c5⟩ := c
    refine PO.boxZ (zs := zD4) (x := ((c1, c2, c3, c4, c5) : F5)) rfl rfl w fun h2 y2 B2 => ?_
    have T2 := T.kx y2
    have w2 := y2.wf
    have I := T2.inv
    have R := I.ok.rng
    have hu0 := R.u0; have hl0 := R.l0
    have hleft : 0 ≤ leftV x := by unfold leftV; omega
    obtain ⟨sb, sl, sc, S⟩ := T2.str
    have hpb := S.box.blt
    refine PO.ptr (PO.ldI (i := 0 + 1) S.box rfl (PO.ptr ?_))
    rw [addA_zero]
    refine PO.callE (Left_f S R) ?_
    -- what comes of one call
    refine PO.join (fun q => ∃ (h4 : H) (y : SS) (sent' : Sl), q = ((some ⟨p, 0, some 0⟩, ((N : Int), (sent', (x.used, (calls, ((xs.length : Int), (j : Int))))))), h4) ∧ FI h0 h4 p N y sent' (j + 1) ∧ x.used ≤ y.used) ?_ ?_
    · have Tm : FI h0 h2 p N x sent (j + 1) := ⟨T2.ex, T2.str, T2.inv, let ⟨fs, b, f, l, g⟩ := T2.sent; ⟨fs, b, f, by omega, g⟩⟩
      refine PO.ldI (i := 0) B2 rfl (PO.callE (pick_f c1 6 (by omega) (by omega) h2) ?_)
      refine PO.condE (fun h0' => ?_) (fun h0' => ?_)
      · refine PO.ptr (PO.ldI (i := 1) B2 rfl (PO.callE (pick_f c2 1000 (by omega) (by omega) h2) ?_))
        rw [addA_zero]
        refine PO.call (Raise_f w2 S (c2 % 1000)) ?_
        rintro _ h3 ⟨S3, u3⟩
        obtain ⟨I3, e3⟩ := I.raise (c2 % 1000)
        exact .retL ⟨h3, _, sent, rfl, Tm.upd u3 ⟨sb, sl, sc, S3⟩ I3 (by omega), by omega⟩
      · refine PO.condE (fun h1' => ?_) (fun h1' => ?_)
        · refine PO.condD (fun hs => ?_) (fun hs => .retL ⟨h2, x, sent, rfl, Tm, Int.le_refl _⟩)
          obtain ⟨fs, b, f, l, g⟩ := T2.sent
          have hbl := b.rd.len
          rw [fsV_length] at hbl
          have hsl : sent.len = fs.length := by omega
          refine PO.ldI (i := 1) B2 rfl ?_
          rw [hsl]
          refine PO.callE (pick_f c2 (fs.length : Int) (by omega) (by omega) h2) ?_
          have i0 : 0 ≤ c2 % (fs.length : Int) := Int.emod_nonneg _ (by omega)
          have i1 : c2 % (fs.length : Int) < fs.length := Int.emod_lt_of_pos _ (by omega)
          refine PO.ixFs b.rd i0 i1 fun a' q hq e2 => PO.op e2 ?_
          obtain ⟨q1, q2, q3, q4, q5, q6, q7, q8, q9⟩ := q
          obtain ⟨v, hv, ov⟩ := g _ hq
          refine PO.call (Lost_f w2 S R (by have := I.ok.lostLen; omega) (by rw [I.came]; simp) (ov.sm I) hv) ?_
          rintro _ h3 ⟨sl', S3, u3⟩
          obtain ⟨I3, e3⟩ := I.lost ov
          exact .retL ⟨h3, _, sent, rfl, Tm.upd u3 ⟨sb, sl', sc, S3⟩ I3 (by omega), by omega⟩
        · have m0 : 0 ≤ c3 % 90 := Int.emod_nonneg _ (by omega)
          have m1 : c3 % 90 < 90 := Int.emod_lt_of_pos _ (by omega)
          refine PO.ldI (i := 2) B2 rfl (PO.callE (pick_f c3 90 (by omega) (by omega) h2) (PO.ldI (i := 1) B2 rfl (PO.callE (pick_f c2 160 (by omega) (by omega) h2) ?_)))
          generalize c3 % 90 = most at *
          generalize c2 % 160 = room at *
          refine PO.call (Next_f w2 S I.ok room most (by omega)) ?_
          rintro ⟨⟨a1, a2, a3, a4, a5, a6, a7, a8, a9⟩, fresh, ok⟩ h3 ⟨u3, hq⟩
          rcases hq with ⟨e1, e2, _, S3⟩ | ⟨e1, f, u, hp, e2, fa, sl', S3⟩
          · have e1 : ok = false := e1
            have e2 : fresh = 0 := e2
            subst e1; subst e2
            have T3 := Tm.upd u3 ⟨sb, sl, sc, S3⟩ I (Int.le_refl _)
            refine PO.boxF (x := (a1, a2, a3, a4, a5, a6, a7, a8, a9)) rfl u3.wf fun h4 x4 B4 z4 => ?_
            have T4 := T3.kx x4
            have S4 := S3.kx u3.wf x4
            refine PO.condT ?_
            refine PO.join (fun q => q = ((some ⟨p, 0, some 0⟩, ((N : Int), (sent, (calls, ((xs.length : Int), ((j : Int), false)))))), h4)) ?_ ?_
            · refine PO.condNE (fun h => absurd rfl h) fun _ => PO.ptr (PO.ldI (i := 0 + 1) S4.box rfl (.retL ?_))
              simp
            · rintro _ rfl
              exact PO.condF (.retR ⟨h4, x, sent, rfl, T4⟩)
          · have e1 : ok = true := e1
            have e2 : fresh = max 0 (u - x.used) := e2
            subst e1
            obtain ⟨I3, ov, hfu⟩ := I.next hp
            have P := hp.picked I.ok
            have T3 := Tm.upd u3 ⟨sb, sl', sc, S3⟩ I3 (by show x.used ≤ max x.used u; omega)
            have hf0 := P.f0; have hub := P.ub; have hbl := I.ok.rng.bl; have hfr := P.fresh
            have hoff : a3 = f := fa.rd.e.2.2.1
            have hlen : (a8.len : Int) = u - f := by
              have h1 : a8.len = (sfr x f u).data.length := RdB.len fa.rd.data
              have h2 := sfr_len (x := x) P.f0 P.fu P.ub
              omega
            refine PO.boxF (x := (a1, a2, a3, a4, a5, a6, a7, a8, a9)) rfl u3.wf fun h4 x4 B4 z4 => ?_
            have T4 := T3.kx x4
            have S4 := S3.kx u3.wf x4
            have hp4 := S4.box.blt
            have hnr4 := S4.box.nro
            refine PO.condF (PO.ldF B4 ?_)
            obtain ⟨fs, b, ff, l, g⟩ := T4.sent
            dsimp only
            refine PO.appF1 (x := ((a1, a2, a3, a4, a5, a6, a7, a8, a9) : F9)) x4.wf b (n := p + 1) (by omega) (by omega) ff (by omega) fun sent' h5 b5 u5 f5 k5 => ?_
            have S5 := S4.kp x4.wf k5 u5
            have ld : ∀ {i v}, (f9L (a1, a2, a3, a4, a5, a6, a7, a8, a9))[i]? = some v → ldCell h5 (add ⟨h3.size, 0, some 0⟩ i) = some v := fun hi => k5.ld _ _ B4.blt (B4.ld hi)
            have T5 : FI h0 h5 p N (nextX x f u) sent' (j + 1) := by
              refine ⟨u5.ex0 T4.ex fun A hA e => by have := S.p0; omega, ⟨sb, sl', sc, S5⟩, I3, fs ++ [(a1, a2, a3, a4, a5, a6, a7, a8, a9)], b5, f5, ?_, ?_⟩
              · obtain ⟨fs0, b0, _, l0, _⟩ := T2.sent
                have q1 := b.rd.len
                have q2 := b0.rd.len
                rw [fsV_length] at q1 q2
                simp; omega
              · intro q hq
                rcases List.mem_append.1 hq with hq | hq
                · exact g q hq
                · simp only [List.mem_singleton] at hq
                  subst hq
                  exact ⟨sfr x f u, fa.rd.hd, ov⟩
            have hus5 : ∀ {α : Type} {Q : α → Prop} {ff : Int → Option α}, PO (ff (max x.used u)) Q → PO (bindO (Abs.ldI .i64 h5 (add ⟨p, 0, some 0⟩ (0 + 1))) ff) Q := fun k => PO.ldI (i := 0 + 1) S5.box rfl k
            refine PO.op (ldI_of (ld (i := 2) rfl)) (PO.op (ldL_of (ld (i := 7) rfl)) ?_)
            dsimp only
            have hto : IntKind.wrap .i64 (a3 + ((a8.len : Nat) : Int)) = u := by rw [hoff, hlen, w64 (by omega) (by omega)]; omega
            rw [hto]
            refine PO.join (fun q => q = ((some ⟨p, 0, some 0⟩, ((N : Int), (sent', (x.used, (calls, ((xs.length : Int), ((j : Int), false))))))), h5)) ?_ ?_
            · refine PO.condD (fun h => absurd h (by omega)) fun _ => PO.condD (fun h => absurd h (by omega)) fun _ => PO.condD (fun h => absurd h (by omega)) fun _ => PO.ptr (hus5 ?_)
              refine PO.condNE (fun h => absurd (by rw [w64 (by omega) (by omega)]; omega) h) fun _ => PO.ptr (hus5 (PO.letO ?_))
              refine PO.condNE (fun h => absurd (by split <;> omega) h) fun _ => ?_
              have hd : (((a8.len : Nat) : Int) == 0) = false := by rw [hlen]; simp; omega
              refine PO.condD (fun hpos => ?_) (fun hpos => PO.op (ldL_of (ld (i := 7) rfl)) (.retL ?_))
              · refine PO.op (ldI_of (ld (i := 2) rfl)) (PO.condNE (fun h => absurd ?_ h) fun _ => PO.op (ldL_of (ld (i := 7) rfl)) (.retL ?_))
                · show a3 = x.used
                  rw [hoff]; exact (hfr (by omega)).1
                · show _ = _
                  dsimp only
                  rw [hd]
              · dsimp only
                rw [hd]
            · rintro _ rfl
              exact PO.condF (.retL ⟨h5, nextX x f u, sent', rfl, T5, by show x.used ≤ max x.used u; omega⟩)
    · rintro _ ⟨h4, y, sent', rfl, T4, hyu⟩
      dsimp only
      obtain ⟨sb', sl', sc', S4⟩ := T4.str
      have I4 := T4.inv
      have hul := I4.ul
      have hub := I4.ok.ub
      have hlen := I4.len
      refine PO.join (fun q => q = ((some ⟨p, 0, some 0⟩, ((N : Int), (sent', (calls, ((xs.length : Int), ((j : Int), false)))))), h4)) ?_ ?_
      · refine PO.ptr (PO.ldI (i := 0 + 1) S4.box rfl (PO.condD (fun h => absurd h (by omega)) fun _ => PO.ptr (PO.ldI (i := 0 + 1) S4.box rfl (PO.ptr (PO.ldI (i := 0 + 0) S4.box rfl (PO.condD (fun h => absurd h (by omega)) fun _ => PO.ptr (PO.ldI (i := 0 + 1) S4.box rfl (.retL ?_))))))))
        rw [decide_eq_false (by omega)]
      · rintro _ rfl
        exact PO.condF (.retL ⟨h4, y, sent', rfl, T4⟩)
  · rintro _ ⟨h2, y, sent', rfl, T2⟩
    refine .retL ⟨_, ?_, j + 1, h2, y, sent', ?_, rfl, by omega, T2⟩
    · omega
    · rw [w64 (n := (j : Int) + 1) (by omega) (by omega)]; rfl
theorem SendFreshU (size : Int) (calls : Sl) (h : H) (w : WF h) (g1 : RNG size) (xs : List F5) (r : Rd 5 h calls (csD4 xs)) (hx : xs.length ≤ 1048576) :
    ∃ h', law13_SendFresh size calls h = some (true, h') := by
  refine PO.law ?_
  have hlc : calls.len = xs.length := by have := r.len; rw [csD4_length] at this; omega
  unfold law13_SendFresh P.law13_SendFresh
  refine PO.call (SNew_f w 3) ?_
  rintro _ h1 ⟨rfl, S1, x1⟩
  refine PO.join (fun q => ∃ h2, q = ((size, (calls, (some ⟨h.size, 0, some 0⟩, false))), h2) ∧ EX h1 h2) ?_ ?_
  · refine PO.call (known13_f x1.wf) ?_
    rintro _ h2 ⟨rfl, x2⟩
    exact PO.condF (PO.op (x := false) rfl (.retL ⟨h2, rfl, x2⟩))
  · rintro _ ⟨h2, rfl, x2⟩
    dsimp only
    refine PO.condF ?_
    have n0 : 0 ≤ size % 900 := Int.emod_nonneg _ (by omega)
    have n1 : size % 900 < 900 := Int.emod_lt_of_pos _ (by omega)
    refine PO.callE (pick_f size 900 (by omega) (by omega) h2) ?_
    obtain ⟨N, hN⟩ : ∃ N : Nat, size % 900 = N := ⟨(size % 900).toNat, by omega⟩
    rw [hN] at n0 n1 ⊢
    refine PO.call (Text_f x2.wf (l := []) (rd_nil 1 h2) (by simp) N (by omega)) ?_
    rintro s3 h3 ⟨b3, x3, _⟩
    have tl := textL_length [] N
    have S3 := S1.kx x1.wf (x2.trans x3)
    have hpb := S1.box.blt
    refine PO.call (Write_f x3.wf S3 (buf_nil 1 h3) (fun a ha => by simp at ha) b3.rd rfl rfl (by simp [ss0]; omega)) ?_
    rintro _ h4 ⟨rfl, ⟨sb4, S4, _, _⟩, g4, k4, u4, v4⟩
    rw [hlc]
    have x4 : EX h h4 := v4.ex0 (u4.ex0 ((x1.trans x2).trans x3) fun A hA e => by omega) fun A hA e => by omega
    refine fresh_l1 w r (by omega) (p := h.size) (N := N) (by omega) xs.length _ ⟨0, h4, _, ⟨none, 0, 0⟩, rfl, rfl, by omega, x4, ⟨sb4, _, _, S4⟩, ?_, [], buf_nil 9 h4, fun a ha => by simp at ha, by simp, by simp⟩
    have hl : ([] ++ textL [] N : List UInt8).length = N := by simp [tl]
    refine ⟨⟨⟨by simp [ss0], by simp [ss0], ?_⟩, trivial, ?_, ?_⟩, rfl, ?_, rfl, rfl, rfl, by simp [ss0]⟩
    · show ([] ++ textL [] N : List UInt8).length ≤ 4000; omega
    · show (0 : Int) ≤ 0 ∧ (0 : Int) ≤ (([] ++ textL [] N : List UInt8).length : Int); omega
    · show (0 : Int) ≤ (([] ++ textL [] N : List UInt8).length : Int); omega
    · exact hl
end Go.Proofs.Ytaebjajbogedkaa.T
