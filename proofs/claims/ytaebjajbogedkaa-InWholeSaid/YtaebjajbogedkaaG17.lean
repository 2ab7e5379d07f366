/- Lemmas about the typed texts (joined: SSend2 SSend3 SSpanG). -/
import Derived.Test.YtaebjajbogedkaaG16
-- SEAT c
/- Chapter 13's stream over the typed texts: frames of some bytes, as many as go in. -/
set_option linter.unusedVariables false
set_option linter.unusedSimpArgs false
namespace Go.Proofs.Ytaebjajbogedkaa.T
open Go Go.Abs Go.Proofs
theorem slB_mid2 {h : H} {s : Sl} {l : List UInt8} (hr : RdB h s l) {lo hi : Int} (h0 : 0 ≤ lo) (h1 : lo ≤ hi) (h2 : hi ≤ l.length) : ∃ s', slT 1 h s (some lo) (some hi) none = some s' ∧ RdB h s' ((l.drop lo.toNat).take (hi.toNat - lo.toNat)) := by
  obtain ⟨s', e, r, _, _⟩ := sl_lohi (lo := lo) (hi := hi) (by omega) (by unfold B63; omega) hr h0 h1 (by rw [RdB.len hr]; exact h2)
  refine ⟨s', e, ?_⟩
  unfold RdB vB
  rw [List.map_take, List.map_drop]
  simpa [vB] using r
/-- a frame whose bytes lie at n or behind, without spans -/
structure FrmA (n : Nat) (h : H) (a : F9) (v : FV) : Prop where
  rd : FRd h a v
  fr : Fr n a.2.2.2.2.2.2.2.1
  nil : a.2.2.2.2.2.2.2.2 = ⟨none, 0, 0⟩
theorem FrmA.ex {n : Nat} {h h1 : H} {a : F9} {v : FV} (x : EX h h1) (f : FrmA n h a v) : FrmA n h1 a v := ⟨f.rd.ex x, f.fr, f.nil⟩
theorem FrmA.mono {n m : Nat} {h : H} {a : F9} {v : FV} (f : FrmA n h a v) (hm : m ≤ n) : FrmA m h a v := ⟨f.rd, fun p hp => Nat.le_trans hm (f.fr p hp), f.nil⟩
/-- what a fitting frame is -/
def Fits (x : SS) (f to room u : Int) : Prop := f < u ∧ u ≤ to ∧ u ≤ f + 120 ∧ fszV (sfr x f u) ≤ room ∧ ∀ v, u < v → v ≤ to → v ≤ f + 120 → room < fszV (sfr x f v)
def NoFit (x : SS) (f to room : Int) : Prop := ∀ v, f < v → v ≤ to → v ≤ f + 120 → room < fszV (sfr x f v)
theorem sfr_sz (x : SS) (f t : Int) : (sfr x f t).data.length ≤ x.b.length := by unfold sfr; simp; omega
end Go.Proofs.Ytaebjajbogedkaa.T
-- SEAT c
/- Chapter 13's stream over the typed texts: the next frame. -/
set_option linter.unusedVariables false
set_option linter.unusedSimpArgs false
namespace Go.Proofs.Ytaebjajbogedkaa.T
open Go Go.Abs Go.Proofs
def FitR (x : SS) (f to room : Int) (n : Nat) (h' : H) (q : F9 × Bool) : Prop := (q.2 = false ∧ NoFit x f to room) ∨ (q.2 = true ∧ ∃ u, Fits x f to room u ∧ FrmA n h' q.1 (sfr x f u))
theorem FitR.mono {x : SS} {f to room : Int} {n m : Nat} {h' : H} {q : F9 × Bool} (r : FitR x f to room n h' q) (hm : m ≤ n) : FitR x f to room m h' q := by
  rcases r with r | ⟨e, u, hu, fa⟩
  · exact .inl r
  · exact .inr ⟨e, u, hu, fa.mono hm⟩
/-- a run that is lost and may go: the first one -/
def firstR (m : Int) : List Run → Option Run
  | [] => none
  | r :: l => if r.1 < m then some r else firstR m l
def topV (x : SS) (most : Int) : Int := min (mayS x) (x.used + max 0 (min most (leftV x)))
def finV (x : SS) (room : Int) : Prop := endsV x x.b.length = true ∧ x.used = x.b.length ∧ x.fd = true ∧ fszV (sfr x x.b.length x.b.length) ≤ room
/-- what next hands back -/
def NextV (x : SS) (room most : Int) (n : Nat) (h' : H) (q : F9 × Bool) : Prop := match firstR (mayS x) x.lost with
  | some r => FitR x r.1 (min r.2 (mayS x)) room n h' q
  | none => if x.used < topV x most then FitR x x.used (topV x most) room n h' q else
      (q.2 = true ∧ finV x room ∧ FrmA n h' q.1 (sfr x x.b.length x.b.length)) ∨ (q.2 = false ∧ ¬ finV x room)
structure SOK (x : SS) : Prop where
  rng : SRng x
  nrl : Nrm (-1) x.used x.lost
  sure : 0 ≤ x.sure ∧ x.sure ≤ x.b.length
  ub : x.used ≤ x.b.length
theorem SOK.may {x : SS} (K : SOK x) : 0 ≤ mayS x ∧ mayS x ≤ x.b.length := by
  unfold mayS; have := K.sure; split <;> omega
theorem SOK.lostLen {x : SS} (K : SOK x) : x.lost.length ≤ 5000 := by
  have h1 := Nrm.length K.nrl (by have := K.rng.u0; omega)
  have h2 := K.ub; have h3 := K.rng.bl
  omega
theorem box2 {h : H} {b : Nat} {r1 r2 : Int} {α : Type} {Q : α → Prop} {f : Int → Option α} (B : Box h b [.int .i64 r1, .int .i64 r2]) : (PO (f r1) Q → PO (bindO (Abs.ldI .i64 h (add ⟨b, 0, some 0⟩ ((0 : Int).toNat * 1))) f) Q) ∧ (PO (f r2) Q → PO (bindO (Abs.ldI .i64 h (add ⟨b, 0, some 0⟩ ((1 : Int).toNat * 1))) f) Q) :=
  ⟨fun p => PO.ldI (i := 0) B rfl p, fun p => PO.ldI (i := 1) B rfl p⟩
end Go.Proofs.Ytaebjajbogedkaa.T
-- SEAT c
/- Sets of numbers over the typed texts: the gaps within a run. -/
set_option linter.unusedVariables false
set_option linter.unusedSimpArgs false
namespace Go.Abs
open Go
def gapR : Int → Int → List Run → List Run
  | f, t, [] => if f < t then [(f, t)] else []
  | f, t, r :: l => (if f < min r.1 t then [(f, min r.1 t)] else []) ++ gapR (max f r.2) t l
theorem gapR_len : ∀ (l : List Run) (f t : Int), (gapR f t l).length ≤ l.length + 1
  | [], f, t => by unfold gapR; split <;> simp
  | r :: l, f, t => by
    have := gapR_len l (max f r.2) t
    unfold gapR
    split <;> simp <;> omega
theorem mem_one (a b n : Int) : mem (if a < b then [(a, b)] else []) n ↔ a ≤ n ∧ n < b := by
  by_cases h : a < b
  · rw [if_pos h, mem_cons, mem_nil]; simp
  · rw [if_neg h, mem_nil]; exact ⟨fun x => x.elim, fun x => absurd (Int.lt_of_le_of_lt x.1 x.2) h⟩
theorem gapR_mem : ∀ (l : List Run) (lo e f t n : Int), Nrm lo e l → (mem (gapR f t l) n ↔ (f ≤ n ∧ n < t) ∧ ¬ mem l n)
  | [], lo, e, f, t, n, _ => by unfold gapR; rw [mem_one, mem_nil]; simp
  | r :: l, lo, e, f, t, n, ⟨h1, h2, h3, h4⟩ => by
    unfold gapR
    rw [mem_app, mem_one, gapR_mem l _ _ _ _ n h4, mem_cons]
    have hl : mem l n → r.2 < n := fun ⟨q, hq, a, b⟩ => by have := h4.low q hq; omega
    constructor
    · rintro (⟨a, b⟩ | ⟨⟨a, b⟩, c⟩)
      · exact ⟨by omega, fun d => by rcases d with d | d; omega; have := hl d; omega⟩
      · exact ⟨by omega, fun d => by rcases d with d | d; omega; exact c d⟩
    · rintro ⟨⟨a, b⟩, c⟩
      by_cases d : n < r.1
      · exact .inl (by omega)
      · right
        exact ⟨⟨by have : ¬ (r.1 ≤ n ∧ n < r.2) := fun e => c (.inl e); omega, b⟩, fun e => c (.inr e)⟩
theorem gapR_nrm : ∀ (l : List Run) (lo e f t g E : Int), Nrm lo e l → g < f → t ≤ E → Nrm g E (gapR f t l)
  | [], lo, e, f, t, g, E, _, h1, h2 => by
    unfold gapR
    split
    · exact ⟨h1, by assumption, h2, trivial⟩
    · trivial
  | r :: l, lo, e, f, t, g, E, ⟨a, b, c, d⟩, h1, h2 => by
    unfold gapR
    by_cases h : f < min r.1 t
    · rw [if_pos h]
      exact ⟨h1, h, by show min r.1 t ≤ E; omega, gapR_nrm l _ _ _ _ _ _ d (by show min r.1 t < max f r.2; omega) h2⟩
    · rw [if_neg h]
      exact gapR_nrm l _ _ _ _ _ _ d (by omega) h2
/-- what a set holds tells its runs -/
theorem nrm_ext : ∀ (l m : List Run) (lo e lo' e' : Int), Nrm lo e l → Nrm lo' e' m → (∀ n, mem l n ↔ mem m n) → l = m
  | [], [], _, _, _, _, _, _, _ => rfl
  | [], r :: m, _, _, _, _, _, ⟨_, h, _⟩, hm => by
    have := (hm r.1).2 ((mem_cons _ _ _).2 (.inl ⟨Int.le_refl _, h⟩))
    exact absurd this (by simp [mem_nil])
  | r :: l, [], _, _, _, _, ⟨_, h, _⟩, _, hm => by
    have := (hm r.1).1 ((mem_cons _ _ _).2 (.inl ⟨Int.le_refl _, h⟩))
    exact absurd this (by simp [mem_nil])
  | r :: l, q :: m, lo, e, lo', e', ⟨a1, a2, a3, a4⟩, ⟨b1, b2, b3, b4⟩, hm => by
    have lowl : ∀ n, mem l n → r.2 < n := fun n ⟨x, hx, c, d⟩ => by have := a4.low x hx; omega
    have lowm : ∀ n, mem m n → q.2 < n := fun n ⟨x, hx, c, d⟩ => by have := b4.low x hx; omega
    have one : ∀ n, (r.1 ≤ n ∧ n < r.2) ∨ mem l n ↔ (q.1 ≤ n ∧ n < q.2) ∨ mem m n := fun n => by rw [← mem_cons, ← mem_cons]; exact hm n
    have e1 : r.1 = q.1 := by
      have h1 := (one r.1).1 (.inl ⟨Int.le_refl _, a2⟩)
      have h2 := (one q.1).2 (.inl ⟨Int.le_refl _, b2⟩)
      have h3 : mem m r.1 → q.2 < r.1 := lowm r.1
      have h4 : mem l q.1 → r.2 < q.1 := lowl q.1
      rcases h1 with h1 | h1 <;> rcases h2 with h2 | h2
      · omega
      · have := h4 h2; omega
      · have := h3 h1; omega
      · have := h3 h1; have := h4 h2; omega
    have e2 : r.2 = q.2 := by
      rcases Int.lt_trichotomy r.2 q.2 with h | h | h
      · have h1 := (one r.2).2 (.inl ⟨by omega, h⟩)
        rcases h1 with h1 | h1
        · omega
        · have := lowl _ h1; omega
      · exact h
      · have h1 := (one q.2).1 (.inl ⟨by omega, h⟩)
        rcases h1 with h1 | h1
        · omega
        · have := lowm _ h1; omega
    have er : r = q := Prod.ext e1 e2
    subst er
    congr 1
    refine nrm_ext l m _ _ _ _ a4 b4 fun n => ⟨fun h => ?_, fun h => ?_⟩
    · rcases (one n).1 (.inr h) with c | c
      · have := lowl n h; omega
      · exact c
    · rcases (one n).2 (.inr h) with c | c
      · have := lowm n h; omega
      · exact c
end Go.Abs
namespace Go.Proofs.Ytaebjajbogedkaa.T
open Go Go.Abs Go.Proofs
def gapS (f t : Int) (l : List Run) : List Run := gapR (brg f) (brg t) l
theorem PO.appRg {α : Type} {Q : α → Prop} {h0 h : H} {out : Sl} {l : List Run} {x y : Int} {e : TypeId} {g : Sl → H → Option α} (hb : BufR h out l) (hx : EX h0 h) (hf : Fr h0.size out) (hl : l.length + 1 ≤ 2 ^ 42)
    (k : ∀ out1 h2, BufR h2 out1 (l ++ [(x, y)]) → EX h0 h2 → Fr h0.size out1 → KP h h2 → PO (g out1 h2) Q) : PO (newO (row e [.int .i64 x, .int .i64 y]) h fun b h1 => bind2 (appT e 2 16 h1 out ⟨some ⟨b, 0, some 0⟩, 1, 1⟩) g) Q := by
  refine PO.newB hx.wf fun h1 x1 B1 z1 w1 => ?_
  have r1 : RdR h1 ⟨some ⟨h.size, 0, some 0⟩, 1, 1⟩ [(x, y)] := B1.rd w1 rfl (by unfold CapOK; rw [capK_exact (by unfold B63; omega)]; exact Nat.le_refl _)
  have hb1 : BufR h1 out l := hb.ex hx.wf x1
  have hlen := RdR.len hb1.rd
  obtain ⟨s', h', e', k1, x2, b2, _, f2⟩ := appT_ok (e := e) (bytes := 16) (by omega) (by unfold B63; omega) w1 hb1 r1 (runsV_oneC _) (by simp only; omega) (by simp only; omega)
  refine PO.callE e' (k s' h' ?_ (x2 _ (hx.trans x1) hf) (f2 _ (hx.trans x1).size hf) ((x1.kp hx.wf).trans k1))
  unfold BufR; rw [runsV_app]; exact b2
theorem Gaps_f {h : H} (w : WF h) {b k : Nat} {L : List Value} {l : List Run} (S : SetAt h b k L l) (hl : l.length ≤ 2 ^ 39) (f t : Int) :
    PO (spans_Set_Gaps (some (add ⟨b, 0, some 0⟩ k)) f t h) (fun (s, h') => EX h h' ∧ RdR h' s (gapS f t l) ∧ Fr h.size s) := by
  unfold spans_Set_Gaps P.spans_Set_Gaps
  refine .callE (bring_f _ _) (.callE (bring_f _ _) ?_)
  obtain ⟨s, e1, r1, n1⟩ := S.ex
  have hlen := r1.len
  unfold gapS
  generalize brg f = f0
  generalize brg t = t0
  refine PO.join (fun q => ∃ (f' : Int) (out : Sl) (hh : H) (o : List Run), q = ((f', (t0, out)), hh) ∧ EX h hh ∧ Fr h.size out ∧ BufR hh out o ∧ o.length ≤ l.length ∧ gapR f0 t0 l = o ++ gapR f' t0 []) ?_ ?_
  · refine .ptr ?_
    rw [addA_zero]
    refine .ldL S.box e1 ?_
    refine PO.loop (fun n q => ∃ (j : Nat) (f' : Int) (out : Sl) (hh : H) (o : List Run), q = ((f', (t0, (out, (s, ((l.length : Int), (j : Int)))))), hh) ∧ n = l.length - j ∧ j ≤ l.length ∧ EX h hh ∧ Fr h.size out ∧ BufR hh out o ∧ o.length ≤ j ∧ gapR f0 t0 l = o ++ gapR f' t0 (l.drop j)) ?_ l.length _ ⟨0, f0, ⟨none, 0, 0⟩, h, [], by rw [hlen]; rfl, rfl, by omega, EX.refl w, fun a ha => by simp at ha, buf_nil 2 h, by simp, rfl⟩
    rintro n _ ⟨j, f', out, hh, o, rfl, rfl, hj, x, fo, bo, ho, hg⟩
    unfold P.spans_Set_Gaps_l1
    dsimp only
    refine PO.condD (fun hc => ?_) (fun hc => ?_)
    · have hjl : j < l.length := by omega
      rw [List.drop_eq_getElem_cons hjl, gapR] at hg
      refine PO.ixR (r1.ex x) (by omega) (by omega) fun a c hb ha e1 e2 e3 => PO.op e1 ?_
      rw [show ((j : Int)).toNat = j from rfl, show l.getD j (0, 0) = l[j] by simp [List.getD_eq_getElem?_getD, hjl]]
      generalize l[j] = r at *
      obtain ⟨r1', r2'⟩ := r
      simp only at hg
      refine PO.newB x.wf fun g3 x3 B3 z3 w3 => PO.stZ (zs := [.int .i64, .int .i64]) (x := ((r1', r2') : Int × Int)) B3 w3 rfl rfl fun g4 B4 u4 z4 w4 => ?_
      have B4 : Box g4 hh.size [.int .i64 r1', .int .i64 r2'] := B4
      have y4 : EX hh g4 := u4.ex0 x3 fun A hA e => by omega
      have x4 := x.trans y4
      have b4 := bo.ex x.wf y4
      have emin : (if t0 < r1' then t0 else r1') = min r1' t0 := by omega
      have emax : (if r2' > f' then r2' else f') = max f' r2' := by omega
      refine PO.join (fun q => ∃ (out' : Sl) (g5 : H) (o' : List Run), q = ((f', (t0, (out', (some ⟨hh.size, 0, some 0⟩, (s, ((l.length : Int), (j : Int))))))), g5) ∧ EX h g5 ∧ Fr h.size out' ∧ BufR g5 out' o' ∧ Abs.ldI .i64 g5 (add ⟨hh.size, 0, some 0⟩ ((1 : Int).toNat * 1)) = some r2' ∧ o' = o ++ (if f' < min r1' t0 then [(f', min r1' t0)] else [])) ?_ ?_
      · refine PO.ixA (by omega) (by omega) ((box2 B4).1 ?_)
        rw [emin]
        refine PO.condD (fun hlt => ?_) (fun hlt => ?_)
        · refine PO.appRg b4 x4 fo (by omega) fun out1 g5 b5 x5 f5 k5 => .retL ⟨out1, g5, _, rfl, x5, f5, b5, ldI_of (k5.ld _ _ B4.blt (B4.ld (i := 1) rfl)), ?_⟩
          rw [if_pos hlt]
        · refine .retL ⟨out, g4, _, rfl, x4, fo, b4, ldI_of (B4.ld (i := 1) rfl), ?_⟩
          rw [if_neg hlt]; simp
      · rintro _ ⟨out', g5, o', rfl, x5, f5, b5, l5, ho'⟩
        refine PO.ptr (PO.ixA (by omega) (by omega) (PO.op l5 ?_))
        rw [emax]
        refine .retL ⟨_, ?_, j + 1, max f' r2', out', g5, o', ?_, rfl, by omega, x5, f5, b5, ?_, ?_⟩
        · omega
        · rw [w64 (n := (j : Int) + 1) (by omega) (by omega)]; rfl
        · rw [ho']; split <;> simp <;> omega
        · rw [hg, ho', List.append_assoc]
    · have : j = l.length := by omega
      subst this
      rw [List.drop_length] at hg
      exact .retR ⟨f', out, hh, o, rfl, x, fo, bo, ho, hg⟩
  · rintro _ ⟨f', out, hh, o, rfl, x, fo, bo, ho, hg⟩
    dsimp only
    refine PO.join (fun q => ∃ (out' : Sl) (g5 : H), q = (out', g5) ∧ EX h g5 ∧ Fr h.size out' ∧ BufR g5 out' (gapR f0 t0 l)) ?_ ?_
    · refine PO.condD (fun hlt => ?_) (fun hlt => .retL ⟨out, hh, rfl, x, fo, ?_⟩)
      · refine PO.appRg bo x fo (by omega) fun out1 g5 b5 x5 f5 k5 => .retL ⟨out1, g5, rfl, x5, f5, ?_⟩
        rw [hg, gapR, if_pos hlt]; exact b5
      · rw [hg, gapR, if_neg hlt, List.append_nil]; exact bo
    · rintro _ ⟨out', g5, rfl, x5, f5, b5⟩
      have := gapR_len l f0 t0
      obtain ⟨s', e2, o2, hb⟩ := clipR_f (Buf.own b5) (by omega)
      exact .callE e2 (.ret ⟨x5, o2.rd, fun p hp => f5 p (hb ▸ hp)⟩)
theorem SAll_f {h : H} (w : WF h) {b k : Nat} {L : List Value} {l : List Run} (S : SetAt h b k L l) (hl : l.length ≤ 2 ^ 39) (f t : Int) :
    PO (spans_Set_All (some (add ⟨b, 0, some 0⟩ k)) f t h) (fun (a, h') => EX h h' ∧ a = decide (gapS f t l = [])) := by
  unfold spans_Set_All P.spans_Set_All
  refine PO.call (Gaps_f w S hl f t) ?_
  rintro s h1 ⟨x1, r1, _⟩
  refine .ret ⟨x1, ?_⟩
  have := r1.len
  rw [this]
  cases gapS f t l with
  | nil => rfl
  | cons r m =>
    have : (((r :: m : List Run).length : Int) == 0) = false := by simp; omega
    rw [this]; simp
end Go.Proofs.Ytaebjajbogedkaa.T
