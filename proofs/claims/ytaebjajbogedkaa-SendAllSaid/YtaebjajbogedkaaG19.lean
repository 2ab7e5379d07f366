/- Lemmas about the typed texts (joined: SSpanG SSend4 SSend5). -/
import Derived.Test.YtaebjajbogedkaaG18
-- SEAT c
/- Sets of numbers over the typed texts: the gaps within a run. -/
set_option linter.unusedVariables false
set_option linter.unusedSimpArgs false
namespace Go.Abs
open Go
def gapR : Int → Int → List Run → List Run
  | f, t, [] => if f < t then [(f, t)] else []
  | f, t, r :: l => (if f < min r.1 t then [(f, min r.1 t)] else []) ++ gapR (max f r.2) t l
theorem gapR_len : ∀ (l : List Run) (f t : Int), (gapR f t l).length ≤ l.length + 1
  | [], f, t => by unfold gapR; split <;> simp
  | r :: l, f, t => by
    have := gapR_len l (max f r.2) t
    unfold gapR
    split <;> simp <;> omega
theorem mem_one (a b n : Int) : mem (if a < b then [(a, b)] else []) n ↔ a ≤ n ∧ n < b := by
  by_cases h : a < b
  · rw [if_pos h, mem_cons, mem_nil]; simp
  · rw [if_neg h, mem_nil]; exact ⟨fun x => x.elim, fun x => absurd (Int.lt_of_le_of_lt x.1 x.2) h⟩
theorem gapR_mem : ∀ (l : List Run) (lo e f t n : Int), Nrm lo e l → (mem (gapR f t l) n ↔ (f ≤ n ∧ n < t) ∧ ¬ mem l n)
  | [], lo, e, f, t, n, _ => by unfold gapR; rw [mem_one, mem_nil]; simp
  | r :: l, lo, e, f, t, n, ⟨h1, h2, h3, h4⟩ => by
    unfold gapR
    rw [mem_app, mem_one, gapR_mem l _ _ _ _ n h4, mem_cons]
    have hl : mem l n → r.2 < n := fun ⟨q, hq, a, b⟩ => by have := h4.low q hq; omega
    constructor
    · rintro (⟨a, b⟩ | ⟨⟨a, b⟩, c⟩)
      · exact ⟨by omega, fun d => by rcases d with d | d; omega; have := hl d; omega⟩
      · exact ⟨by omega, fun d => by rcases d with d | d; omega; exact c d⟩
    · rintro ⟨⟨a, b⟩, c⟩
      by_cases d : n < r.1
      · exact .inl (by omega)
      · right
        exact ⟨⟨by have : ¬ (r.1 ≤ n ∧ n < r.2) := fun e => c (.inl e); omega, b⟩, fun e => c (.inr e)⟩
theorem gapR_nrm : ∀ (l : List Run) (lo e f t g E : Int), Nrm lo e l → g < f → t ≤ E → Nrm g E (gapR f t l)
  | [], lo, e, f, t, g, E, _, h1, h2 => by
    unfold gapR
    split
    · exact ⟨h1, by assumption, h2, trivial⟩
    · trivial
  | r :: l, lo, e, f, t, g, E, ⟨a, b, c, d⟩, h1, h2 => by
    unfold gapR
    by_cases h : f < min r.1 t
    · rw [if_pos h]
      exact ⟨h1, h, by show min r.1 t ≤ E; omega, gapR_nrm l _ _ _ _ _ _ d (by show min r.1 t < max f r.2; omega) h2⟩
    · rw [if_neg h]
      exact gapR_nrm l _ _ _ _ _ _ d (by omega) h2
/-- what a set holds tells its runs -/
theorem nrm_ext : ∀ (l m : List Run) (lo e lo' e' : Int), Nrm lo e l → Nrm lo' e' m → (∀ n, mem l n ↔ mem m n) → l = m
  | [], [], _, _, _, _, _, _, _ => rfl
  | [], r :: m, _, _, _, _, _, ⟨_, h, _⟩, hm => by
    have := (hm r.1).2 ((mem_cons _ _ _).2 (.inl ⟨Int.le_refl _, h⟩))
    exact absurd this (by simp [mem_nil])
  | r :: l, [], _, _, _, _, ⟨_, h, _⟩, _, hm => by
    have := (hm r.1).1 ((mem_cons _ _ _).2 (.inl ⟨Int.le_refl _, h⟩))
    exact absurd this (by simp [mem_nil])
  | r :: l, q :: m, lo, e, lo', e', ⟨a1, a2, a3, a4⟩, ⟨b1, b2, b3, b4⟩, hm => by
    have lowl : ∀ n, mem l n → r.2 < n := fun n ⟨x, hx, c, d⟩ => by have := a4.low x hx; omega
    have lowm : ∀ n, mem m n → q.2 < n := fun n ⟨x, hx, c, d⟩ => by have := b4.low x hx; omega
    have one : ∀ n, (r.1 ≤ n ∧ n < r.2) ∨ mem l n ↔ (q.1 ≤ n ∧ n < q.2) ∨ mem m n := fun n => by rw [← mem_cons, ← mem_cons]; exact hm n
    have e1 : r.1 = q.1 := by
      have h1 := (one r.1).1 (.inl ⟨Int.le_refl _, a2⟩)
      have h2 := (one q.1).2 (.inl ⟨Int.le_refl _, b2⟩)
      have h3 : mem m r.1 → q.2 < r.1 := lowm r.1
      have h4 : mem l q.1 → r.2 < q.1 := lowl q.1
      rcases h1 with h1 | h1 <;> rcases h2 with h2 | h2
      · omega
      · have := h4 h2; omega
      · have := h3 h1; omega
      · have := h3 h1; have := h4 h2; omega
    have e2 : r.2 = q.2 := by
      rcases Int.lt_trichotomy r.2 q.2 with h | h | h
      · have h1 := (one r.2).2 (.inl ⟨by omega, h⟩)
        rcases h1 with h1 | h1
        · omega
        · have := lowl _ h1; omega
      · exact h
      · have h1 := (one q.2).1 (.inl ⟨by omega, h⟩)
        rcases h1 with h1 | h1
        · omega
        · have := lowm _ h1; omega
    have er : r = q := Prod.ext e1 e2
    subst er
    congr 1
    refine nrm_ext l m _ _ _ _ a4 b4 fun n => ⟨fun h => ?_, fun h => ?_⟩
    · rcases (one n).1 (.inr h) with c | c
      · have := lowl n h; omega
      · exact c
    · rcases (one n).2 (.inr h) with c | c
      · have := lowm n h; omega
      · exact c
end Go.Abs
namespace Go.Proofs.Ytaebjajbogedkaa.T
open Go Go.Abs Go.Proofs
def gapS (f t : Int) (l : List Run) : List Run := gapR (brg f) (brg t) l
theorem PO.appRg {α : Type} {Q : α → Prop} {h0 h : H} {out : Sl} {l : List Run} {x y : Int} {e : TypeId} {g : Sl → H → Option α} (hb : BufR h out l) (hx : EX h0 h) (hf : Fr h0.size out) (hl : l.length + 1 ≤ 2 ^ 42)
    (k : ∀ out1 h2, BufR h2 out1 (l ++ [(x, y)]) → EX h0 h2 → Fr h0.size out1 → KP h h2 → PO (g out1 h2) Q) : PO (newO (row e [.int .i64 x, .int .i64 y]) h fun b h1 => bind2 (appT e 2 16 h1 out ⟨some ⟨b, 0, some 0⟩, 1, 1⟩) g) Q := by
  refine PO.newB hx.wf fun h1 x1 B1 z1 w1 => ?_
  have r1 : RdR h1 ⟨some ⟨h.size, 0, some 0⟩, 1, 1⟩ [(x, y)] := B1.rd w1 rfl (by unfold CapOK; rw [capK_exact (by unfold B63; omega)]; exact Nat.le_refl _)
  have hb1 : BufR h1 out l := hb.ex hx.wf x1
  have hlen := RdR.len hb1.rd
  obtain ⟨s', h', e', k1, x2, b2, _, f2⟩ := appT_ok (e := e) (bytes := 16) (by omega) (by unfold B63; omega) w1 hb1 r1 (runsV_oneC _) (by simp only; omega) (by simp only; omega)
  refine PO.callE e' (k s' h' ?_ (x2 _ (hx.trans x1) hf) (f2 _ (hx.trans x1).size hf) ((x1.kp hx.wf).trans k1))
  unfold BufR; rw [runsV_app]; exact b2
theorem Gaps_f {h : H} (w : WF h) {b k : Nat} {L : List Value} {l : List Run} (S : SetAt h b k L l) (hl : l.length ≤ 2 ^ 39) (f t : Int) :
    PO (spans_Set_Gaps (some (add ⟨b, 0, some 0⟩ k)) f t h) (fun (s, h') => EX h h' ∧ RdR h' s (gapS f t l) ∧ Fr h.size s) := by
  unfold spans_Set_Gaps P.spans_Set_Gaps
  refine .callE (bring_f _ _) (.callE (bring_f _ _) ?_)
  obtain ⟨s, e1, r1, n1⟩ := S.ex
  have hlen := r1.len
  unfold gapS
  generalize brg f = f0
  generalize brg t = t0
  refine PO.join (fun q => ∃ (f' : Int) (out : Sl) (hh : H) (o : List Run), q = ((f', (t0, out)), hh) ∧ EX h hh ∧ Fr h.size out ∧ BufR hh out o ∧ o.length ≤ l.length ∧ gapR f0 t0 l = o ++ gapR f' t0 []) ?_ ?_
  · refine .ptr ?_
    rw [addA_zero]
    refine .ldL S.box e1 ?_
    refine PO.loop (fun n q => ∃ (j : Nat) (f' : Int) (out : Sl) (hh : H) (o : List Run), q = ((f', (t0, (out, (s, ((l.length : Int), (j : Int)))))), hh) ∧ n = l.length - j ∧ j ≤ l.length ∧ EX h hh ∧ Fr h.size out ∧ BufR hh out o ∧ o.length ≤ j ∧ gapR f0 t0 l = o ++ gapR f' t0 (l.drop j)) ?_ l.length _ ⟨0, f0, ⟨none, 0, 0⟩, h, [], by rw [hlen]; rfl, rfl, by omega, EX.refl w, fun a ha => by simp at ha, buf_nil 2 h, by simp, rfl⟩
    rintro n _ ⟨j, f', out, hh, o, rfl, rfl, hj, x, fo, bo, ho, hg⟩
    unfold P.spans_Set_Gaps_l1
    dsimp only
    refine PO.condD (fun hc => ?_) (fun hc => ?_)
    · have hjl : j < l.length := by omega
      rw [List.drop_eq_getElem_cons hjl, gapR] at hg
      refine PO.ixR (r1.ex x) (by omega) (by omega) fun a c hb ha e1 e2 e3 => PO.op e1 ?_
      rw [show ((j : Int)).toNat = j from rfl, show l.getD j (0, 0) = l[j] by simp [List.getD_eq_getElem?_getD, hjl]]
      generalize l[j] = r at *
      obtain ⟨r1', r2'⟩ := r
      simp only at hg
      refine PO.newB x.wf fun g3 x3 B3 z3 w3 => PO.stZ (zs := [.int .i64, .int .i64]) (x := ((r1', r2') : Int × Int)) B3 w3 rfl rfl fun g4 B4 u4 z4 w4 => ?_
      have B4 : Box g4 hh.size [.int .i64 r1', .int .i64 r2'] := B4
      have y4 : EX hh g4 := u4.ex0 x3 fun A hA e => by omega
      have x4 := x.trans y4
      have b4 := bo.ex x.wf y4
      have emin : (if t0 < r1' then t0 else r1') = min r1' t0 := by omega
      have emax : (if r2' > f' then r2' else f') = max f' r2' := by omega
      refine PO.join (fun q => ∃ (out' : Sl) (g5 : H) (o' : List Run), q = ((f', (t0, (out', (some ⟨hh.size, 0, some 0⟩, (s, ((l.length : Int), (j : Int))))))), g5) ∧ EX h g5 ∧ Fr h.size out' ∧ BufR g5 out' o' ∧ Abs.ldI .i64 g5 (add ⟨hh.size, 0, some 0⟩ ((1 : Int).toNat * 1)) = some r2' ∧ o' = o ++ (if f' < min r1' t0 then [(f', min r1' t0)] else [])) ?_ ?_
      · refine PO.ixA (by omega) (by omega) ((box2 B4).1 ?_)
        rw [emin]
        refine PO.condD (fun hlt => ?_) (fun hlt => ?_)
        · refine PO.appRg b4 x4 fo (by omega) fun out1 g5 b5 x5 f5 k5 => .retL ⟨out1, g5, _, rfl, x5, f5, b5, ldI_of (k5.ld _ _ B4.blt (B4.ld (i := 1) rfl)), ?_⟩
          rw [if_pos hlt]
        · refine .retL ⟨out, g4, _, rfl, x4, fo, b4, ldI_of (B4.ld (i := 1) rfl), ?_⟩
          rw [if_neg hlt]; simp
      · rintro _ ⟨out', g5, o', rfl, x5, f5, b5, l5, ho'⟩
        refine PO.ptr (PO.ixA (by omega) (by omega) (PO.op l5 ?_))
        rw [emax]
        refine .retL ⟨_, ?_, j + 1, max f' r2', out', g5, o', ?_, rfl, by omega, x5, f5, b5, ?_, ?_⟩
        · omega
        · rw [w64 (n := (j : Int) + 1) (by omega) (by omega)]; rfl
        · rw [ho']; split <;> simp <;> omega
        · rw [hg, ho', List.append_assoc]
    · have : j = l.length := by omega
      subst this
      rw [List.drop_length] at hg
      exact .retR ⟨f', out, hh, o, rfl, x, fo, bo, ho, hg⟩
  · rintro _ ⟨f', out, hh, o, rfl, x, fo, bo, ho, hg⟩
    dsimp only
    refine PO.join (fun q => ∃ (out' : Sl) (g5 : H), q = (out', g5) ∧ EX h g5 ∧ Fr h.size out' ∧ BufR g5 out' (gapR f0 t0 l)) ?_ ?_
    · refine PO.condD (fun hlt => ?_) (fun hlt => .retL ⟨out, hh, rfl, x, fo, ?_⟩)
      · refine PO.appRg bo x fo (by omega) fun out1 g5 b5 x5 f5 k5 => .retL ⟨out1, g5, rfl, x5, f5, ?_⟩
        rw [hg, gapR, if_pos hlt]; exact b5
      · rw [hg, gapR, if_neg hlt, List.append_nil]; exact bo
    · rintro _ ⟨out', g5, rfl, x5, f5, b5⟩
      have := gapR_len l f0 t0
      obtain ⟨s', e2, o2, hb⟩ := clipR_f (Buf.own b5) (by omega)
      exact .callE e2 (.ret ⟨x5, o2.rd, fun p hp => f5 p (hb ▸ hp)⟩)
theorem SAll_f {h : H} (w : WF h) {b k : Nat} {L : List Value} {l : List Run} (S : SetAt h b k L l) (hl : l.length ≤ 2 ^ 39) (f t : Int) :
    PO (spans_Set_All (some (add ⟨b, 0, some 0⟩ k)) f t h) (fun (a, h') => EX h h' ∧ a = decide (gapS f t l = [])) := by
  unfold spans_Set_All P.spans_Set_All
  refine PO.call (Gaps_f w S hl f t) ?_
  rintro s h1 ⟨x1, r1, _⟩
  refine .ret ⟨x1, ?_⟩
  have := r1.len
  rw [this]
  cases gapS f t l with
  | nil => rfl
  | cons r m =>
    have : (((r :: m : List Run).length : Int) == 0) = false := by simp; omega
    rw [this]; simp
end Go.Proofs.Ytaebjajbogedkaa.T
-- SEAT c
/- Chapter 13's stream over the typed texts: Next, Lost, Acked, Done, Finish, Reset, Turn. -/
set_option linter.unusedVariables false
set_option linter.unusedSimpArgs false
namespace Go.Proofs.Ytaebjajbogedkaa.T
open Go Go.Abs Go.Proofs
/-! what of a frame was sent; did it tell the end -/
def sentV (x : SS) (v : FV) : Int × Int := if v.off > x.used then (0, 0) else (v.off, min x.used (v.off + v.data.length))
def endedV (x : SS) (v : FV) : Bool := v.fin && x.ft && decide (v.off = (x.b.length : Int) - v.data.length)
structure FSm (v : FV) : Prop where
  off : 0 ≤ v.off ∧ v.off ≤ 4611686018427387903
  dat : v.data.length ≤ 100000
section
variable {n0 : Nat} {h : H} {p : Nat} {x : SS} {sb sl sc : Sl} {f : F9} {v : FV}
theorem sent_f (w : WF h) (S : StrA n0 h p x sb sl sc) (R : SRng x) (hv : FSm v) (e : f.2.2.1 = v.off) (el : f.2.2.2.2.2.2.2.1.len = v.data.length) :
    PO (send_Stream_sent (some ⟨p, 0, some 0⟩) f h) (fun (a, h') => a = sentV x v ∧ EX h h') := by
  have := hv.off; have := hv.dat; have := R.u0
  unfold send_Stream_sent sentV
  refine PO.newB (l := f9L f) w fun h1 x1 B1 z1 w1 => ?_
  have S1 := S.kx w x1
  simp only [add_add]
  refine PO.ldI (i := 2) B1 rfl (PO.ptr (PO.ldI (i := 0 + 1) S1.box rfl (PO.condD (fun hc => .ret ⟨?_, x1⟩) fun hc => PO.ldI (i := 2) B1 rfl (PO.ptr (PO.ldI (i := 0 + 1) S1.box rfl (PO.ldI (i := 2) B1 rfl (PO.ldL (i := 7) B1 rfl (PO.letO (.ret ⟨?_, x1⟩))))))) ))
  · rw [e] at hc; rw [if_pos hc]
  · rw [e] at hc
    rw [if_neg hc, e, el, w64 (by omega) (by omega)]
    refine Prod.ext rfl ?_
    simp only [Int.min_def]
    (repeat' split) <;> omega
theorem ended_f (w : WF h) (S : StrA n0 h p x sb sl sc) (R : SRng x) (hv : FSm v) (e : f.2.2.1 = v.off) (ef : f.2.2.2.2.2.2.1 = v.fin) (el : f.2.2.2.2.2.2.2.1.len = v.data.length) :
    PO (send_Stream_ended (some ⟨p, 0, some 0⟩) f h) (fun (a, h') => a = endedV x v ∧ EX h h') := by
  have := hv.off; have := hv.dat; have := R.bl
  unfold send_Stream_ended endedV
  refine PO.newB (l := f9L f) w fun h1 x1 B1 z1 w1 => ?_
  have S1 := S.kx w x1
  simp only [add_add]
  refine PO.ldB (i := 6) B1 rfl (PO.cond (fun hc => PO.ptr (PO.ldB (i := 8 + 0) S1.box rfl (PO.cond (fun hc2 => PO.ldI (i := 2) B1 rfl (PO.ptr (PO.ldL (i := 3) S1.box rfl (PO.ldL (i := 7) B1 rfl (PO.letO (.ret ⟨?_, x1⟩)))))) (fun hc2 => .ret ⟨?_, x1⟩)))) (fun hc => .ret ⟨?_, x1⟩))
  · rw [ef] at hc
    rw [hc, hc2, e, el, S1.blen, w64 (by omega) (by omega)]
    by_cases h : v.off = (x.b.length : Int) - v.data.length <;> simp [h]
  · rw [hc2]; simp
  · rw [ef] at hc; rw [hc]; rfl
end
/-- a frame's head: its fields, how long its data is -/
structure FHd (f : F9) (v : FV) : Prop where
  e : f.1 = v.kind ∧ f.2.1 = v.id ∧ f.2.2.1 = v.off ∧ f.2.2.2.1 = v.a ∧ f.2.2.2.2.1 = v.b ∧ f.2.2.2.2.2.1 = v.note ∧ f.2.2.2.2.2.2.1 = v.fin
  len : f.2.2.2.2.2.2.2.1.len = v.data.length
theorem FRd.hd {h : H} {f : F9} {v : FV} (r : FRd h f v) : FHd f v := ⟨r.e, RdB.len r.data⟩
/-! Lost -/
def addsL (g l : List Run) : List Run := g.foldl (fun l r => addS r.1 r.2 l) l
def lostS (x : SS) (v : FV) : SS := if v.id ≠ x.id then x else
  if v.kind = 3 then (let x1 : SS := { x with lost := addsL (gapS (sentV x v).1 (sentV x v).2 x.came) x.lost }; if endedV x v && !x.fc then { x1 with fd := true } else x1)
  else if v.kind = 4 ∧ x.reset = true ∧ v.b = x.sure ∧ x.tt = true ∧ x.tc = false then { x with td := true } else x
theorem addS_len (f t : Int) (l : List Run) : (addS f t l).length ≤ l.length + 1 := by
  unfold addS
  split
  · exact addR_length _ _ _ _
  · omega
section
variable {n0 : Nat} {h : H} {p : Nat} {x : SS} {sb sl sc : Sl} {f : F9} {v : FV}
theorem Lost_f (w : WF h) (S : StrA n0 h p x sb sl sc) (R : SRng x) (hl : x.lost.length ≤ 10000) (hc : x.came.length ≤ 10000) (hv : FSm v) (r : FHd f v) :
    PO (send_Stream_Lost (some ⟨p, 0, some 0⟩) f h) (fun (_, h') => ∃ sl', StrA n0 h' p (lostS x v) sb sl' sc ∧ UP (· = p) h h') := by
  obtain ⟨e1, e2, e3, e4, e5, e6, e7⟩ := r.e
  have el := r.len
  unfold send_Stream_Lost P.send_Stream_Lost lostS
  refine PO.newB (l := f9L f) w fun h1 x1 B1 z1 w1 => ?_
  have S1 := S.kx w x1
  simp only [add_add]
  refine PO.ldI (i := 1) B1 rfl (PO.ptr (PO.ldI (i := 2) S1.box rfl (PO.condNE (fun hne => .ret ⟨sl, ?_, x1.up⟩) fun heq => ?_)))
  · rw [e2] at hne; rw [if_pos hne]; exact S1
  rw [e2] at heq
  rw [if_neg (by simp [heq])]
  refine PO.ldI (i := 0) B1 rfl (PO.condE (fun h3 => ?_) fun h3 => ?_)
  · rw [e1] at h3
    rw [if_pos h3]
    refine PO.ldF B1 ?_
    refine PO.call (sent_f w1 S1 R hv e3 el) ?_
    rintro ⟨a, b⟩ h2 ⟨eab, x2⟩
    rw [← eab]
    simp only
    have S2 := S1.kx w1 x2
    have x12 := x1.trans x2
    have hpb := S.box.blt
    refine PO.join (fun q => ∃ (hh : H) (sl' : Sl), q = ((some ⟨p, 0, some 0⟩, some ⟨h.size, 0, some 0⟩), hh) ∧ StrA n0 hh p { x with lost := addsL (gapS a b x.came) x.lost } sb sl' sc ∧ UP (· = p) h hh ∧ Box hh h.size (f9L f)) ?_ ?_
    · refine PO.ptr (PO.call (Gaps_f x2.wf S2.came (by omega) a b) ?_)
      rintro g h3' ⟨x3, rg, fg⟩
      have hglen := rg.len
      have hgl : (gapS a b x.came).length ≤ 10001 := by have := gapR_len x.came (brg a) (brg b); unfold gapS; omega
      generalize gapS a b x.came = G at *
      have S3 := S2.kx x2.wf x3
      have B3 := B1.kx (x2.trans x3)
      refine PO.loop (fun n q => ∃ (j : Nat) (hh : H) (sl' : Sl), q = ((some ⟨p, 0, some 0⟩, (some ⟨h.size, 0, some 0⟩, (g, ((G.length : Int), (j : Int))))), hh) ∧ n = G.length - j ∧ j ≤ G.length ∧ StrA n0 hh p { x with lost := addsL (G.take j) x.lost } sb sl' sc ∧ UP (· = p) h3' hh ∧ (addsL (G.take j) x.lost).length ≤ 10000 + j) ?_ G.length _ ⟨0, h3', sl, by rw [hglen]; rfl, rfl, by omega, S3, UP.refl x3.wf, by simpa [addsL] using hl⟩
      rintro n _ ⟨j, hh, sl', rfl, rfl, hj, Sj, uj, hlj⟩
      unfold P.send_Stream_Lost_l1
      dsimp only
      refine PO.condD (fun hcj => ?_) (fun hcj => ?_)
      · have hjl : j < G.length := by omega
        have rgj : RdR hh g G := Rd.up rg uj fun q hq e => by
          have := fg q hq; have e : q.block = p := e; have := x2.size; have := x1.size; omega
        refine PO.ixR rgj (by omega) (by omega) fun q c hb ha l1 l2 l3 => PO.op l1 ?_
        rw [show ((j : Int)).toNat = j from rfl, show G.getD j (0, 0) = G[j] by simp [List.getD_eq_getElem?_getD, hjl]]
        have htk : G.take (j + 1) = G.take j ++ [G[j]] := List.take_succ_eq_append_getElem hjl
        generalize G[j] = r at *
        obtain ⟨r1', r2'⟩ := r
        refine PO.newB uj.wf fun g3 x3' B3' z3 w3 => PO.stZ (zs := [.int .i64, .int .i64]) (x := ((r1', r2') : Int × Int)) B3' w3 rfl rfl fun g4 B4 u4 z4 w4 => ?_
        have B4 : Box g4 hh.size [.int .i64 r1', .int .i64 r2'] := B4
        have y4 : EX hh g4 := u4.ex0 x3' fun A hA e => by omega
        have S4 := Sj.kx uj.wf y4
        refine PO.ptr (PO.ixA (by omega) (by omega) ((box2 B4).1 (PO.ixA (by omega) (by omega) ((box2 B4).2 ?_))))
        refine PO.call (Add_f w4 S4.lost (by simp only; omega) r1' r2') ?_
        rintro _ g5 ⟨vv, T5, u5, z5⟩
        obtain ⟨sl5, S5⟩ := S4.setLost w4 T5 u5
        have eadd : addsL (G.take (j + 1)) x.lost = addS r1' r2' (addsL (G.take j) x.lost) := by rw [htk]; simp [addsL]
        refine .retL ⟨_, ?_, j + 1, g5, sl5, ?_, rfl, by omega, ?_, ?_, ?_⟩
        · omega
        · rw [w64 (n := (j : Int) + 1) (by omega) (by omega)]; rfl
        · rw [eadd]; exact S5
        · exact uj.trans (y4.trans_up u5) fun _ _ e => e
        · rw [eadd]; have := addS_len r1' r2' (addsL (G.take j) x.lost); omega
      · have : j = G.length := by omega
        subst this
        rw [List.take_length] at Sj
        refine .retR ⟨hh, sl', rfl, Sj, (x12.trans x3).trans_up uj, B3.up x3.wf uj (by omega)⟩
    · rintro _ ⟨hh, sl', rfl, S4, u4, B4⟩
      dsimp only
      have R4 : SRng { x with lost := addsL (gapS a b x.came) x.lost } := ⟨R.l0, R.u0, R.bl⟩
      refine PO.ptr (PO.ldF B4 ?_)
      refine PO.call (ended_f u4.wf S4 R4 hv e3 e7 el) ?_
      rintro q h5 ⟨e5', x5⟩
      have e5' : q = endedV x v := e5'
      subst e5'
      have S5 := S4.kx u4.wf x5
      have u5 := u4.ex x5
      refine PO.cond (fun he => ?_) (fun he => .ret ⟨sl', ?_, u5⟩)
      · rw [he]
        refine PO.ptr (PO.ldB (i := 8 + 2) S5.box rfl (PO.condN (fun hfc => PO.ptr (S5.st u5.wf { x with lost := addsL (gapS a b x.came) x.lost, fd := true } (i := 8 + 1) (by omega) rfl rfl rfl rfl rfl fun h6 S6 u6 w6 => .ret ⟨sl', ?_, u5.trans u6 fun _ _ e => e⟩)) (fun hfc => .ret ⟨sl', ?_, u5⟩)))
        · have hfc : x.fc = false := hfc
          have hq : (true && !x.fc) = true := by rw [hfc]; rfl
          simp only [hq, ↓reduceIte]; exact S6
        · have hfc : x.fc = true := hfc
          have hq : (true && !x.fc) = false := by rw [hfc]; rfl
          simp only [hq, Bool.false_eq_true, ↓reduceIte]; exact S5
      · rw [he]; exact S5
  · rw [e1] at h3
    rw [if_neg h3]
    refine PO.ldI (i := 0) B1 rfl (PO.condE (fun h4 => ?_) fun h4 => .ret ⟨sl, ?_, x1.up⟩)
    · rw [e1] at h4
      refine PO.ptr (PO.ldB (i := 7) S1.box rfl (PO.cond (fun hr => PO.ldI (i := 4) B1 rfl (PO.ptr (PO.ldI (i := 15) S1.box rfl (PO.condE (fun hb => PO.ptr (PO.ldB (i := 11 + 0) S1.box rfl (PO.cond (fun ht => PO.ptr (PO.ldB (i := 11 + 2) S1.box rfl (PO.condN (fun hn => ?_) (fun hn => .ret ⟨sl, ?_, x1.up⟩)))) (fun ht => .ret ⟨sl, ?_, x1.up⟩)))) (fun hb => .ret ⟨sl, ?_, x1.up⟩))))) (fun hr => .ret ⟨sl, ?_, x1.up⟩)))
      · have hb : f.2.2.2.2.1 = x.sure := hb
        rw [if_pos ⟨h4, hr, by rw [← e5]; exact hb, ht, hn⟩]
        exact PO.ptr (S1.st w1 { x with td := true } (i := 11 + 1) (by omega) rfl rfl rfl rfl rfl fun h6 S6 u6 w6 => .ret ⟨sl, S6, (x1.trans_up u6)⟩)
      · rw [if_neg (by rintro ⟨_, _, _, _, g⟩; rw [g] at hn; cases hn)]; exact S1
      · rw [if_neg (by rintro ⟨_, _, _, g, _⟩; rw [g] at ht; cases ht)]; exact S1
      · rw [if_neg (by rintro ⟨_, _, g, _⟩; exact hb (by rw [← g]; exact e5))]; exact S1
      · rw [if_neg (by rintro ⟨_, g, _⟩; rw [g] at hr; cases hr)]; exact S1
    · rw [e1] at h4
      rw [if_neg (fun g => h4 g.1)]; exact S1
end
end Go.Proofs.Ytaebjajbogedkaa.T
-- SEAT c
/- Chapter 13's stream over the typed texts: Next. -/
set_option linter.unusedVariables false
set_option linter.unusedSimpArgs false
namespace Go.Proofs.Ytaebjajbogedkaa.T
open Go Go.Abs Go.Proofs
/-- the frame's bounds that Next takes -/
def PickV (x : SS) (room most f u : Int) : Prop := match firstR (mayS x) x.lost with
  | some r => f = r.1 ∧ Fits x r.1 (min r.2 (mayS x)) room u
  | none => if x.used < topV x most then f = x.used ∧ Fits x x.used (topV x most) room u else finV x room ∧ f = x.b.length ∧ u = x.b.length
def NoPick (x : SS) (room most : Int) : Prop := match firstR (mayS x) x.lost with
  | some r => NoFit x r.1 (min r.2 (mayS x)) room
  | none => if x.used < topV x most then NoFit x x.used (topV x most) room else ¬ finV x room
theorem firstR_mem {m : Int} {r : Run} : ∀ {l : List Run}, firstR m l = some r → r ∈ l ∧ r.1 < m
  | [], h => by cases h
  | q :: l, h => by
    unfold firstR at h
    split at h
    · cases h; exact ⟨List.mem_cons_self, by assumption⟩
    · have := firstR_mem h; exact ⟨List.mem_cons_of_mem _ this.1, this.2⟩
/-- what is picked -/
structure Picked (x : SS) (most f u : Int) : Prop where
  f0 : 0 ≤ f
  fu : f ≤ u
  ub : u ≤ x.b.length
  um : u ≤ mayS x ∨ (u = x.b.length ∧ f = u ∧ x.used = u)
  fresh : x.used < u → f = x.used ∧ u - x.used ≤ leftV x ∧ u - x.used ≤ most
  len : f < u ∨ (f = x.b.length ∧ u = x.b.length ∧ x.used = x.b.length ∧ endsV x x.b.length = true ∧ x.fd = true)
theorem PickV.picked {x : SS} (K : SOK x) {room most f u : Int} (h : PickV x room most f u) : Picked x most f u := by
  have hm := K.may; have hu := K.rng.u0; have hub := K.ub
  unfold PickV at h
  split at h
  · rename_i r hr
    obtain ⟨rfl, g1, g2, g3, g4, _⟩ := h
    obtain ⟨hr1, hr2⟩ := firstR_mem hr
    have := K.nrl.low _ hr1
    exact ⟨by omega, by omega, by omega, .inl (by omega), fun h => by omega, .inl g1⟩
  · split at h
    · rename_i hlt
      obtain ⟨rfl, g1, g2, g3, g4, _⟩ := h
      unfold topV at g2
      exact ⟨by omega, by omega, by omega, .inl (by omega), fun h => ⟨rfl, by omega, by omega⟩, .inl g1⟩
    · obtain ⟨⟨g1, g2, g3, g4⟩, rfl, rfl⟩ := h
      exact ⟨by omega, by omega, by omega, .inr ⟨rfl, rfl, g2⟩, fun h => by omega, .inr ⟨rfl, rfl, g2, g1, g3⟩⟩
theorem sfr_len {x : SS} {f u : Int} (h0 : 0 ≤ f) (h1 : f ≤ u) (h2 : u ≤ x.b.length) : ((sfr x f u).data.length : Int) = u - f := by
  unfold sfr; simp; omega
def nextX (x : SS) (f u : Int) : SS := { x with lost := dropS f u x.lost, used := max x.used u, ft := x.ft || endsV x u, fd := x.fd && !endsV x u }
theorem NextV.cases {x : SS} {room most : Int} {n : Nat} {h' : H} {q : F9 × Bool} (h : NextV x room most n h' q) : (q.2 = false ∧ NoPick x room most) ∨ (q.2 = true ∧ ∃ f u, PickV x room most f u ∧ FrmA n h' q.1 (sfr x f u)) := by
  unfold NextV at h
  unfold NoPick PickV
  cases hr : firstR (mayS x) x.lost with
  | some r =>
    simp only [hr] at h ⊢
    rcases h with h | ⟨h, u, hu, fa⟩
    · exact .inl h
    · exact .inr ⟨h, r.1, u, ⟨rfl, hu⟩, fa⟩
  | none =>
    simp only [hr] at h ⊢
    split at h
    · rename_i hlt
      simp only [if_pos hlt]
      rcases h with h | ⟨h, u, hu, fa⟩
      · exact .inl h
      · exact .inr ⟨h, x.used, u, ⟨rfl, hu⟩, fa⟩
    · rename_i hlt
      simp only [if_neg hlt]
      rcases h with ⟨h, hf, fa⟩ | h
      · exact .inr ⟨h, _, _, ⟨hf, rfl, rfl⟩, fa⟩
      · exact .inl h
theorem buf_lt' {sz : Nat} {h : H} {s : Sl} {l : List Value} (w : WF h) (b : Buf sz h s l) : ∀ a, s.base = some a → a.block < h.size := by
  intro a ha
  rcases b.tip with ht | ⟨a', r, e, h1, h2, _⟩
  · rw [ht] at ha; simp at ha
  · rw [ha] at h1; cases h1; exact lt_of_get w h2
/-- a row that is written with what it held -/
theorem Rd.sameBox {sz b : Nat} {h h' : H} {s : Sl} {l L : List Value} (w : WF h) (B : Box h b L) (B' : Box h' b L) (u : UP (· = b) h h') (r : Rd sz h s l) : Rd sz h' s l :=
  ⟨r.len, r.nil, fun a ha i v hi => by
    obtain ⟨h1, h2⟩ := r.ld a ha i v hi
    refine ⟨Nat.lt_of_lt_of_le h1 u.size, ?_⟩
    by_cases e' : a.block = b
    · obtain ⟨t, c, g1, g2⟩ := B.get
      obtain ⟨t', c', g1', g2'⟩ := B'.get
      rw [ldCell_eq] at h2 ⊢
      simp only [add, e', g1] at h2
      simp only [add, e', g1']
      unfold ldO at h2 ⊢
      simp only at h2 ⊢
      split at h2
      · rename_i sp hsp
        split at h2
        · rename_i cl hcl
          have hlt := w.arr b _ g1 _ _ hcl
          simp only at hlt
          have hg := g2 (a.off + i) _ (List.getElem?_eq_getElem hlt)
          have hg' := g2' (a.off + i) _ (List.getElem?_eq_getElem hlt)
          rw [hg] at hcl
          cases hcl
          rw [hg']
          exact h2
        · simp at h2
      · simp at h2
    · exact u.ld (a := add a i) h1 e' h2, r.cap⟩
theorem Next_f {n0 : Nat} {h : H} (w : WF h) {p : Nat} {x : SS} {sb sl sc : Sl} (S : StrA n0 h p x sb sl sc) (K : SOK x) (room most : Int) (hm : -1000000 ≤ most ∧ most ≤ 1000000) :
    PO (send_Stream_Next (some ⟨p, 0, some 0⟩) room most h) (fun (q, h') => UP (· = p) h h' ∧ ((q.2.2 = false ∧ q.2.1 = 0 ∧ NoPick x room most ∧ StrA n0 h' p x sb sl sc) ∨
      (q.2.2 = true ∧ ∃ f u, PickV x room most f u ∧ q.2.1 = max 0 (u - x.used) ∧ FrmA h.size h' q.1 (sfr x f u) ∧ ∃ sl', StrA n0 h' p (nextX x f u) sb sl' sc))) := by
  have R := K.rng
  unfold send_Stream_Next P.send_Stream_Next
  refine PO.newB w fun g1 x1 B1 z1 w1 => ?_
  have S1 := S.kx w x1
  refine PO.call (next_f w1 S1 K room most hm) ?_
  rintro ⟨⟨a1, a2, a3, a4, a5, a6, a7, a8, a9⟩, ok⟩ g2 ⟨x2, hq⟩
  have hpb := S.box.blt
  have hs1 := x1.size
  have B2 := B1.kx x2
  have S2 := S1.kx w1 x2
  refine PO.stZ (zs := zF) (x := ((a1, a2, a3, a4, a5, a6, a7, a8, a9) : F9)) B2 x2.wf rfl rfl fun g3 B3 u3 z3 w3 => ?_
  have B3 : Box g3 h.size (f9L (a1, a2, a3, a4, a5, a6, a7, a8, a9)) := B3
  have x3 : EX h g3 := u3.ex0 (x1.trans x2) fun A hA e => by omega
  have S3 := S.kx w x3
  rcases hq.cases with ⟨e, hn⟩ | ⟨e, f, u, hp, fa⟩
  · have e : ok = false := e
    subst e
    refine PO.condT (PO.stZ (zs := zF) (x := ((0, 0, 0, 0, 0, 0, false, (⟨none, 0, 0⟩ : Sl), (⟨none, 0, 0⟩ : Sl)) : F9)) B3 w3 rfl rfl fun g4 B4 u4 z4 w4 => ?_)
    have B4 : Box g4 h.size (f9L (0, 0, 0, 0, 0, 0, false, ⟨none, 0, 0⟩, ⟨none, 0, 0⟩)) := B4
    have x4 : EX h g4 := u4.ex0 x3 fun A hA e => by omega
    exact PO.ldF B4 (.ret ⟨x4.up, .inl ⟨rfl, rfl, hn, S.kx w x4⟩⟩)
  · have e : ok = true := e
    subst e
    have P := hp.picked K
    have hbl := R.bl
    have hu0 := R.u0
    have hll := K.lostLen
    have f0 := P.f0; have fu := P.fu; have ub := P.ub
    have hoff : a3 = f := fa.rd.e.2.2.1
    have hfin : a7 = endsV x u := fa.rd.e.2.2.2.2.2.2
    have hlen : (a8.len : Int) = u - f := by
      have := RdB.len fa.rd.data
      have h2 := sfr_len (x := x) f0 fu ub
      have this : a8.len = (sfr x f u).data.length := this
      omega
    have hto : IntKind.wrap .i64 (a3 + ((a8.len : Nat) : Int)) = u := by rw [hoff, hlen, w64 (by omega) (by omega)]; omega
    simp only [add_add]
    refine PO.condF (PO.ldI (i := 2) B3 rfl (PO.ldL (i := 7) B3 rfl (PO.ptr (PO.ldI (i := 2) B3 rfl ?_))))
    dsimp only
    rw [hto, hoff]
    refine PO.call (Drop_f w3 S3.lost (by omega) f u) ?_
    rintro _ g4 ⟨v4, T4, u4, z4⟩
    obtain ⟨sl4, S4⟩ := S3.setLost w3 T4 u4
    have B4 := B3.up w3 u4 (by omega)
    refine PO.ptr (PO.ldI (i := 0 + 1) S4.box rfl (PO.letO (PO.ptr ?_)))
    rw [addA_zero]
    dsimp only
    have efr : (if IntKind.wrap .i64 (u - x.used) > 0 then IntKind.wrap .i64 (u - x.used) else 0) = max 0 (u - x.used) := by
      rw [w64 (by omega) (by omega)]; split <;> omega
    rw [efr]
    have hfr := P.fresh
    have hl0 : 0 ≤ leftV x := by unfold leftV; omega
    have R4 : SRng { x with lost := dropS f u x.lost } := ⟨R.l0, R.u0, R.bl⟩
    refine PO.call (Use_f u4.wf S4 R4 (n := max 0 (u - x.used)) (by omega) (by show _ ≤ leftV x; omega)) ?_
    rintro _ g5 ⟨S5, u5⟩
    have B5 := B4.up u4.wf u5 (by omega)
    have eus : x.used + max 0 (u - x.used) = max x.used u := by omega
    have u35 : UP (· = p) h g5 := (x3.trans_up u4).trans u5 fun _ _ e => e
    have dat : ∀ {g : H}, UP (· = p) g2 g → UP (· = p) g2 g := fun h => h
    refine PO.join (fun q => ∃ g6, q = ((some ⟨h.size, 0, some 0⟩, max 0 (u - x.used)), g6) ∧ StrA n0 g6 p (nextX x f u) sb sl4 sc ∧ UP (· = p) g5 g6) ?_ ?_
    · refine PO.ldB (i := 6) B5 rfl (PO.cond (fun h7 => ?_) (fun h7 => ?_))
      · have h7 : endsV x u = true := by rw [← hfin]; exact h7
        refine PO.ptr (S5.st u5.wf { x with lost := dropS f u x.lost, used := x.used + max 0 (u - x.used), ft := true } (i := 8 + 0) (by omega) rfl rfl rfl rfl rfl fun g6 S6 u6 w6 => PO.ptr (S6.st w6 { x with lost := dropS f u x.lost, used := x.used + max 0 (u - x.used), ft := true, fd := false } (i := 8 + 1) (by omega) rfl rfl rfl rfl rfl fun g7 S7 u7 w7 => .retL ⟨g7, rfl, ?_, u6.trans u7 fun _ _ e => e⟩))
        unfold nextX
        rw [h7, Bool.or_true, Bool.not_true, Bool.and_false, ← eus]; exact S7
      · have h7 : endsV x u = false := by rw [← hfin]; exact h7
        refine .retL ⟨g5, rfl, ?_, UP.refl u5.wf⟩
        unfold nextX
        rw [h7, Bool.or_false, Bool.not_false, Bool.and_true, ← eus]; exact S5
    · rintro _ ⟨g6, rfl, S6, u6⟩
      have B6 := B5.up u5.wf u6 (by omega)
      dsimp only
      refine PO.ptr (PO.ldF B6 (PO.ptr (PO.stZ (zs := zF) (x := ((a1, a2, a3, a4, a5, a6, a7, a8, a9) : F9)) B6 u6.wf rfl rfl fun g7 B7 u7 z7 w7 => ?_)))
      have B7 : Box g7 h.size (f9L (a1, a2, a3, a4, a5, a6, a7, a8, a9)) := B7
      have u36 := u35.trans u6 fun _ _ e => e
      refine PO.ptr (PO.ldF B7 (.ret ⟨?_, .inr ⟨rfl, f, u, hp, rfl, ?_, sl4, ?_⟩⟩))
      · refine ⟨Nat.le_trans u36.size u7.size, u7.nro.trans u36.nro, w7, fun A hA hn => (u7.same A (by have := u36.size; omega) (by have hA : A < h.size := hA; intro e; have e : A = h.size := e; omega)).trans (u36.same A hA hn), u7.st.trans u36.st⟩
      · have d3 : RdB g3 a8 (sfr x f u).data := Rd.up fa.rd.data u3 fun a ha e => by have := fa.fr a ha; have e : a.block = h.size := e; omega
        have d5 : RdB g6 a8 (sfr x f u).data := Rd.up d3 ((u4.trans u5 fun _ _ e => e).trans u6 fun _ _ e => e) fun a ha e => by have := fa.fr a ha; have e : a.block = p := e; omega
        refine ⟨⟨fa.rd.e, Rd.up d5 u7 fun a ha e => by have := fa.fr a ha; have e : a.block = h.size := e; omega, ?_⟩, fun a ha => by have := fa.fr a ha; omega, fa.nil⟩
        have e1 : a9 = ⟨none, 0, 0⟩ := fa.nil
        show RdR g7 a9 []
        rw [e1]; exact rdR_nil g7
      · exact ⟨S6.box.up u6.wf u7 (by omega), Rd.sameBox u6.wf B6 B7 u7 S6.rb, Rd.sameBox u6.wf B6 B7 u7 S6.rl, Rd.sameBox u6.wf B6 B7 u7 S6.rc, S6.nb, S6.nl, S6.nc, S6.p0⟩
end Go.Proofs.Ytaebjajbogedkaa.T
