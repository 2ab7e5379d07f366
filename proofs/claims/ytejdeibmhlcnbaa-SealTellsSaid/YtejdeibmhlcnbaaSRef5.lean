/- The reference's functions of chapter 4 over the typed texts: closing, opening. -/
import Derived.Test.YtejdeibmhlcnbaaSRef4
import Derived.Test.YtejdeibmhlcnbaaSRef2
import Derived.Test.YtejdeibmhlcnbaaLSealWays
set_option linter.unusedVariables false
set_option linter.unusedSimpArgs false
namespace Go.Proofs.Ytejdeibmhlcnbaa.T
open Go Go.Abs Go.Proofs
theorem RClose_f {h : H} {head body : Sl} {hl bl : List UInt8} {key num : Int} (w : WF h) (h1 : RdB h head hl) (h2 : RdB h body bl) (l1 : hl.length ≤ 2 ^ 47) (l2 : bl.length + 8 ≤ 2 ^ 47) (hk : U64 key) :
    ∃ s h', ref1_Close key num head body h = some (s, h') ∧ EX h h' ∧ RdB h' s (closeV key num hl bl) := by
  unfold ref1_Close P.ref1_Close
  obtain ⟨m, g1, e1, x1, r1, f1⟩ := RMask_f (num := num) w h2 (by omega) hk
  have hml := mk_length (stepV key num) bl 0
  rw [e1, bind2_some]
  dsimp only
  rw [newO_eq]
  obtain ⟨s, g2, e2, x2, b2, f2⟩ := app_new x1.wf r1 (by omega)
  rw [e2, bind2_some]
  dsimp only
  rw [RStep_f _ _ hk.1 hk.2, bind2_some, stepV_wrap]
  dsimp only
  have rs := stepV_rng key num
  rw [newO_eq, show row 31 [Value.slice head.base head.len head.cap, .slice m.base m.len m.cap] = row 31 ([head, m].map encSl) from rfl]
  have x02 := x1.trans x2
  obtain ⟨x3, r3⟩ := newS x02.wf [head, m] (by simp [B63])
  simp only [List.length_cons, List.length_nil] at r3
  generalize newAt (grow g2 1) g2.size (row 31 ([head, m].map encSl)) = g3 at x3 r3 ⊢
  have rr : RdBs g3 [head, m] [hl, mk (stepV key num) 0 bl] := ⟨⟨(h1.ex x02).ex x3, l1⟩, ⟨(r1.ex x2).ex x3, by omega⟩, trivial⟩
  rw [RTag_f r3 rr (by simp) rs, bind2_some]
  dsimp only
  obtain ⟨t, g4, e4, x4, b4, _⟩ := Eight_f x3.wf (tagV_rng [hl, mk (stepV key num) 0 bl] _ rs)
  rw [e4, bind2_some]
  dsimp only
  have x24 := x3.trans x4
  have hbl := be_length 8 (tagV (stepV key num) [hl, mk (stepV key num) 0 bl]).toNat
  obtain ⟨u, g5, e5, _, x5, b5, _, _⟩ := appB_ok (e := 5) x24.wf (b2.ex x2.wf x24) b4.rd (by omega)
  rw [e5, bind2_some]
  exact ⟨u, g5, rfl, x1.trans (x5 _ (x2.trans x24) f2), b5.rd⟩
theorem rdS_at {h : H} {B : Nat} (hB : B < h.size) (xs : List Sl) (hz : xs.length < B63) : RdS (newAt h B (row 31 (xs.map encSl))) ⟨some ⟨B, 0, some 0⟩, xs.length, xs.length⟩ xs := by
  refine ⟨by simp, fun h => by simp at h, fun a ha i v hi => ?_, fun _ => by unfold CapOK; rw [capK_exact hz]; exact Nat.le_refl _⟩
  simp only [Option.some.injEq] at ha
  subst ha
  refine ⟨hB, ?_⟩
  rw [ldCell_eq]
  show ldO ((newAt h B (row 31 (xs.map encSl))).objs.get B) _ = _
  rw [newAt_get, if_pos rfl]
  simp only [row, ldO, add, get_ofL, Nat.zero_add, hi, Option.map_some]
  rfl
theorem rdB_parts {h : H} {s : Sl} {l : List UInt8} (r : RdB h s l) {n : Nat} (hn : n ≤ l.length) :
    (∃ s', slT 1 h s none (some (n : Int)) none = some s' ∧ RdB h s' (l.take n) ∧ s' = slV 1 s 0 n) ∧ (∃ s', slT 1 h s (some (n : Int)) none none = some s' ∧ RdB h s' (l.drop n) ∧ s' = slV 1 s n s.len) := by
  constructor
  · obtain ⟨s', e, r', _, v, _⟩ := sl_hi (hi := (n : Int)) (by omega) (by unfold B63; omega) r (by omega) (by rw [r.len]; omega)
    refine ⟨s', e, ?_, by simpa using v⟩
    unfold RdB vB
    rw [List.map_take]
    simpa [vB] using r'
  · obtain ⟨s', e, r', _, v, _⟩ := sl_lo (lo := (n : Int)) (by omega) (by unfold B63; omega) r (by omega) (by rw [r.len]; omega)
    refine ⟨s', e, ?_, by simpa using v⟩
    unfold RdB vB
    rw [List.map_drop]
    simpa [vB] using r'
theorem slEq_self (s : Sl) : slEq s.base s.len s.cap s.base s.len s.cap = true := by simp [slEq]
theorem ROpen_f {h : H} {head sealed : Sl} {hl l : List UInt8} {key num : Int} (w : WF h) (h1 : RdB h head hl) (h2 : RdB h sealed l) (l1 : hl.length ≤ 2 ^ 47) (l2 : l.length ≤ 2 ^ 47) (hk : U64 key) :
    ∃ s h', ref1_Open key num head sealed h = some ((s, (openV key num hl l).isSome), h') ∧ EX h h' ∧ RdB h' s ((openV key num hl l).getD []) := by
  unfold ref1_Open P.ref1_Open openV
  have xG := ex_growIf w 21
  have hGs := growIf_size h 21
  have rs := stepV_rng key num
  rw [h2.len, w64 (by omega) (by omega)]
  by_cases hc : l.length < 8
  · rw [condK_eq, if_pos (by simp; omega), joinO_inl, if_pos hc]
    dsimp only
    rw [condK_eq, if_pos rfl]
    have xT := ex_tick xG.wf 21
    exact ⟨_, _, rfl, xG.trans xT, rd_nil 1 _⟩
  · obtain ⟨n, hn⟩ : ∃ n, l.length = n + 8 := ⟨l.length - 8, by omega⟩
    rw [condK_eq, if_neg (by simp; omega), if_neg hc]
    rw [show ((l.length : Nat) : Int) - 8 = (n : Int) by omega, show l.length - 8 = n by omega]
    rw [RStep_f _ _ hk.1 hk.2, bind2_some, stepV_wrap]
    dsimp only
    have hG := h2.ex xG
    have nG : (growIf h 21).objs.get (h.size + 11) = none := by rw [growIf_eq]; exact w.top _ (by omega)
    have w0 := xG.wf
    obtain ⟨⟨x1, e1, r1, v1⟩, ⟨y1, f1, q1, u1⟩⟩ := rdB_parts hG (n := n) (by omega)
    rw [e1, bindO_some, show row 31 [Value.slice head.base head.len head.cap, .slice x1.base x1.len x1.cap] = row 31 ([head, x1].map encSl) from rfl]
    have xA : EX h (newAt (growIf h 21) (h.size + 11) (row 31 ([head, x1].map encSl))) := ex_at xG.wf xG (by omega) (by omega) 31 _
    have hs : (newAt (growIf h 21) (h.size + 11) (row 31 ([head, x1].map encSl))).objs.get (h.size + 11) ≠ none := by
      rw [newAt_get, if_pos rfl]; simp
    have rA := rdS_at (h := growIf h 21) (B := h.size + 11) (by omega) [head, x1] (by simp [B63])
    have g1 : RdB (newAt (growIf h 21) (h.size + 11) (row 31 ([head, x1].map encSl))) x1 (l.take n) := rd_at nG 31 _ r1
    simp only [List.length_cons, List.length_nil] at rA
    rw [addP_new (mask := 4095) (i := 11) (by decide) nG, addP_nil]
    generalize newAt (growIf h 21) (h.size + 11) (row 31 ([head, x1].map encSl)) = A at xA hs rA g1 ⊢
    have hA := h2.ex xA
    have htk : (l.take n).length = n := by rw [List.length_take]; omega
    rw [RTag_f rA (ls := [hl, l.take n]) ⟨⟨h1.ex xA, l1⟩, ⟨g1, by omega⟩, trivial⟩ (by simp) rs, bind2_some]
    dsimp only
    rw [addP_old (mask := 8191) (i := 11) (by decide) hs, addP_nil]
    obtain ⟨x3, g, e3, x3', b3, _⟩ := Eight_f xA.wf (tagV_rng [hl, l.take n] _ rs)
    rw [e3, bind2_some]
    dsimp only
    have hs2 : g.objs.get (h.size + 11) ≠ none := (x3'.kp xA.wf).som _ hs
    have hg := hA.ex x3'
    obtain ⟨⟨x2, e2, r2, v2⟩, ⟨y2, f2, q2, u2⟩⟩ := rdB_parts hA (n := n) (by omega)
    obtain ⟨⟨x4, e4, r4, v4⟩, ⟨y4, f4, q4, u4⟩⟩ := rdB_parts hg (n := n) (by omega)
    have y21 : y2 = y1 := by rw [u1, u2]
    have y41 : y4 = y1 := by rw [u1, u4]
    subst y21
    subst y41
    rw [addP_old (mask := 16383) (i := 11) (by decide) hs2, addP_nil, strT_ok b3.rd, bind2_some]
    dsimp only
    rw [addP_off (mask := 98311) (i := 11) (by decide), addP_nil, f4, bindO_some, addP_off (mask := 229383) (i := 11) (by decide), addP_nil, strT_ok q4, bind2_some]
    dsimp only
    rw [addP_off (mask := 229383) (i := 11) (by decide), addP_nil, strT_ok q2, bind2_some]
    dsimp only
    rw [condK_eq, if_pos (beq_self_eq_true _), addP_off (mask := 229383) (i := 11) (by decide), addP_nil, strT_ok q1, bind2_some]
    dsimp only
    rw [condK_eq, if_pos (beq_self_eq_true _), bind2_some]
    dsimp only
    rw [condK_eq, if_pos (beq_self_eq_true _)]
    rw [addP_off (mask := 98311) (i := 11) (by decide), addP_nil, f2, bindO_some, condK_eq, if_pos (slEq_self _), addP_off (mask := 98311) (i := 11) (by decide), addP_nil, f1, bindO_some, condK_eq, if_pos (slEq_self _), bindO_some, condK_eq, if_pos (slEq_self _), addP_off (mask := 775) (i := 11) (by decide), addP_nil, e1, bindO_some, condK_eq, if_pos (slEq_self _), joinO_inl]
    dsimp only
    rw [addP_old (mask := 2097151) (i := 11) (by decide) hs2, addP_nil, bs_eq]
    have xg := xA.trans x3'
    have xT := ex_tick xg.wf 21
    have hT := h2.ex (xg.trans xT)
    have htg : be 8 (tagV (stepV key num) [hl, l.take n]).toNat = tagL key num hl (l.take n) := rfl
    rw [htg]
    by_cases he : tagL key num hl (l.take n) = l.drop n
    · rw [decide_eq_true he, if_pos he, condK_eq, if_neg (by simp)]
      obtain ⟨⟨x5, e5, r5, _⟩, _⟩ := rdB_parts hT (n := n) (by omega)
      rw [e5, bindO_some]
      obtain ⟨s', h', e6, x6, r6, _⟩ := RMask_f (num := num) xT.wf r5 (by omega) hk
      rw [e6, bind2_some]
      exact ⟨s', h', rfl, (xg.trans xT).trans x6, r6⟩
    · rw [decide_eq_false he, if_neg he, condK_eq, if_pos (by simp)]
      exact ⟨_, _, rfl, xg.trans xT, rd_nil 1 _⟩
end Go.Proofs.Ytejdeibmhlcnbaa.T
