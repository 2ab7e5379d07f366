/- Chapter 5's functions over the typed texts: right frames. -/
-- SEAT b
import Derived.Test.YthiccnmplgdheaaSFrame2
set_option linter.unusedVariables false
set_option linter.unusedSimpArgs false
namespace Go.Proofs.Ythiccnmplgdheaa.T
open Go Go.Abs Go.Proofs
def bareV (v : FV) : FV :=
  if v.kind = 2 then ⟨v.kind, 0, 0, 0, 0, 0, false, [], v.spans⟩
  else if v.kind = 3 then ⟨v.kind, v.id, v.off, 0, 0, 0, v.fin, v.data, []⟩
  else if v.kind = 4 then ⟨v.kind, v.id, v.off, v.a, v.b, 0, false, [], []⟩
  else if v.kind = 5 ∨ v.kind = 7 then ⟨v.kind, v.id, 0, v.a, 0, 0, false, [], []⟩
  else if v.kind = 6 ∨ v.kind = 12 then ⟨v.kind, 0, 0, v.a, 0, 0, false, [], []⟩
  else if v.kind = 8 then ⟨v.kind, 0, 0, v.a, 0, 0, v.fin, [], []⟩
  else if v.kind = 9 then ⟨v.kind, 0, 0, 0, 0, 0, false, v.data, []⟩
  else if v.kind = 10 ∨ v.kind = 11 then ⟨v.kind, v.id, 0, 0, 0, 0, false, [], []⟩
  else ⟨v.kind, 0, 0, 0, 0, 0, false, [], []⟩
theorem rdR_nil (h : H) : RdR h ⟨none, 0, 0⟩ [] := rd_nil 2 h
theorem rdB_nil (h : H) : RdB h ⟨none, 0, 0⟩ [] := rd_nil 1 h
theorem bareX_rd {h : H} {x : F9} {v : FV} (r : FRd h x v) : FRd h (bareX x) (bareV v) := by
  obtain ⟨e1, e2, e3, e4, e5, e6, e7⟩ := r.e
  have d := r.data
  have s := r.spans
  have n1 := rdB_nil h
  have n2 := rdR_nil h
  unfold bareX bareV
  rw [e1]
  (repeat' split) <;> first | exact ⟨⟨rfl, rfl, rfl, rfl, rfl, rfl, rfl⟩, by first | exact d | exact n1, by first | exact s | exact n2⟩ | exact ⟨⟨rfl, e2, rfl, e4, rfl, rfl, rfl⟩, by first | exact d | exact n1, by first | exact s | exact n2⟩ | exact ⟨⟨rfl, e2, e3, e4, e5, rfl, rfl⟩, by first | exact d | exact n1, by first | exact s | exact n2⟩ | exact ⟨⟨rfl, e2, e3, rfl, rfl, rfl, e7⟩, by first | exact d | exact n1, by first | exact s | exact n2⟩ | exact ⟨⟨rfl, rfl, rfl, e4, rfl, rfl, rfl⟩, by first | exact d | exact n1, by first | exact s | exact n2⟩ | exact ⟨⟨rfl, rfl, rfl, e4, rfl, rfl, e7⟩, by first | exact d | exact n1, by first | exact s | exact n2⟩ | exact ⟨⟨rfl, e2, rfl, rfl, rfl, rfl, rfl⟩, by first | exact d | exact n1, by first | exact s | exact n2⟩
def FR0 (v : FV) : Prop := (1 ≤ v.kind ∧ v.kind ≤ 12) ∧ sameV v (bareV v) ∧ (okN v.id ∧ okN v.off ∧ okN v.a ∧ okN v.b) ∧ v.data.length ≤ 120
def FR1 (v : FV) : Prop := if v.kind = 2 then RSs v.spans else if v.kind = 3 then v.off ≤ 4611686018427387903 - v.data.length else if v.kind = 4 then v.b ≤ v.off else if v.kind = 9 then 0 < v.data.length else True
def FR (v : FV) : Prop := FR0 v ∧ FR1 v
instance (v : FV) : Decidable (FR0 v) := by unfold FR0; infer_instance
instance (v : FV) : Decidable (FR1 v) := by unfold FR1; infer_instance
instance (v : FV) : Decidable (FR v) := by unfold FR; infer_instance
theorem FRight_f {h : H} (w : WF h) {x : F9} {v : FV} (hx : FRd h x v) (h1 : v.data.length ≤ 2 ^ 47) (h2 : v.spans.length ≤ 2 ^ 40) : PO (frame_Right x h) (fun (a, h1) => a = decide (FR v) ∧ EX h h1) := by
  unfold frame_Right P.frame_Right
  obtain ⟨e1, e2, e3, e4, e5, e6, e7⟩ := hx.e
  have hdl := RdB.len hx.data
  refine PO.newB w fun g0 x0 B0 z0 w0 => ?_
  have B0' : Box g0 h.size (f9L x) := B0
  have hn0 := w0.nro
  refine PO.join (fun s => s.1.1 = some ⟨h.size, 0, some 0⟩ ∧ EX h s.2 ∧ Box s.2 h.size (f9L x) ∧ (s.1.2 = true ↔ ¬ FR0 v)) ?_ ?_
  · refine PO.letGrow w0 fun g1 x1 z1 w1 n1 => ?_
    have B1 := Box.kx x1 B0'
    refine .ldI B1 rfl (.condD (fun c => PO.letTick w1 fun g2 x2 z2 w2 => .retL ⟨rfl, (x0.trans x1).trans x2, Box.kx x2 B1, ?_⟩) (fun c => ?_))
    · have c' : x.1 < 1 := c
      simp only [true_iff]; exact fun hh => by have := hh.1.1; omega
    refine .ldI B1 rfl (.condD (fun c2 => PO.letTick w1 fun g2 x2 z2 w2 => .retL ⟨rfl, (x0.trans x1).trans x2, Box.kx x2 B1, ?_⟩) (fun c2 => ?_))
    · have c' : x.1 > 12 := c2
      simp only [true_iff]; exact fun hh => by have := hh.1.2; omega
    have hk : 1 ≤ v.kind ∧ v.kind ≤ 12 := by
      have c' : ¬ x.1 < 1 := c
      have c2' : ¬ x.1 > 12 := c2
      omega
    refine PO.ldF B1 (PO.ldF B1 (PO.call (bare_f w1 x) fun a g4 ⟨ea, x4⟩ => ?_))
    subst ea
    have f4 : FRd g4 x v := ((hx.ex x0).ex x1).ex x4
    refine PO.call (same_f x4.wf f4 (bareX_rd f4) h1 h2) fun a g5 ⟨ea, x5⟩ => ?_
    subst ea
    have B4 := Box.kx x4 B1
    have B5 := Box.kx x5 B4
    refine .condND (fun hs => PO.ldF B4 (.chkV rfl (PO.letTick x5.wf fun g2 x2 z2 w2 => .retL ⟨rfl, (((x0.trans x1).trans x4).trans x5).trans x2, Box.kx x2 B5, ?_⟩))) (fun hs => ?_)
    · simp only [true_iff]; exact fun hh => hs hh.2.1
    refine .ldI B5 rfl (.ldI B5 rfl (.ldI B5 rfl (.ldI B5 rfl ?_)))
    have hz45 := (x4.trans x5).size
    refine PO.addNew x5.wf (by decide) (EX.nn (x4.trans x5) (by omega) (n1 24 (by omega))) (by omega) (by rw [x5.nro, x4.nro, x1.nro]; omega) fun g7 N7 B7 => .addNil ?_
    have C7 := NW.kb N7 B5
    have y7 : EX h g7 := N7.ex0 ((((x0.trans x1).trans x4).trans x5)) (by have := x0.size; omega)
    have ri : RdI .i64 g7 ⟨some ⟨g0.size + 24, 0, some 0⟩, 4, 4⟩ [x.2.1, x.2.2.1, x.2.2.2.1, x.2.2.2.2.1] := B7.rd N7.wf rfl (capOk_self _ _ (by unfold B63; omega))
    refine PO.call (frmay_f ri (by simp)) fun a g8 ⟨ea, x8⟩ => ?_
    subst ea x8
    have hmay : (∀ n ∈ [x.2.1, x.2.2.1, x.2.2.2.1, x.2.2.2.2.1], okN n) ↔ (okN v.id ∧ okN v.off ∧ okN v.a ∧ okN v.b) := by rw [e2, e3, e4, e5]; simp
    refine .condND (fun hs2 => .addOff (by decide) (.addNil (PO.ldF B4 (.chkV rfl (.addOld B7.ne (.addNil (PO.letTick N7.wf fun g2 x2 z2 w2 => .retL ⟨rfl, y7.trans x2, Box.kx x2 C7, ?_⟩))))))) (fun hs2 => ?_)
    · simp only [true_iff]; exact fun hh => hs2 (hmay.2 hh.2.2.1)
    refine .addOld B7.ne (.addNil (.ldL C7 rfl (.addOld B7.ne (.addNil (.addOff (by decide) (.addNil (PO.ldF B4 (.chkV rfl (.addOld B7.ne (.addNil (PO.letTick N7.wf fun g2 x2 z2 w2 => .retL ⟨rfl, y7.trans x2, Box.kx x2 C7, ?_⟩)))))))))))
    rw [decide_eq_true_eq]
    constructor
    · intro hh hf; have := hf.2.2.2; omega
    · intro hh; exact Decidable.byContradiction fun h3 => hh ⟨hk, hs, hmay.1 hs2, by omega⟩
  rintro ⟨⟨p, bad⟩, g1⟩ ⟨ep, x1, B1, hb⟩
  have ep' : p = some ⟨h.size, 0, some 0⟩ := ep
  subst ep'
  have B1' : Box g1 h.size (f9L x) := B1
  have x1' : EX h g1 := x1
  have hb' : bad = true ↔ ¬ FR0 v := hb
  refine .cond (fun c => .ret ⟨(decide_eq_false (fun hh => hb'.1 c hh.1)).symm, x1'⟩) (fun c => ?_)
  have h0 : FR0 v := Decidable.byContradiction fun hh => by rw [hb'.2 hh] at c; simp at c
  have key : ∀ (P : Prop) [Decidable P] (g : H), EX h g → (FR1 v ↔ P) → PO (some (decide P, g)) (fun (a, h1) => a = decide (FR v) ∧ EX h h1) := fun P _ g y hp => .ret ⟨decide_eq_decide.2 ⟨fun q => ⟨h0, hp.2 q⟩, fun q => hp.1 q.2⟩, y⟩
  have hlx := h0.2.2.2
  refine .ptr (.ldI B1' rfl (.condE (fun k2 => ?_) (fun k2 => ?_)))
  · have k2' : v.kind = 2 := e1.symm.trans k2
    refine .ptr (.ldL B1' rfl (PO.call (rightSpans_f x1'.wf ((hx.ex x1').spans) h2) fun a g2 ⟨ea, x2⟩ => ?_))
    subst ea
    exact key _ _ (x1'.trans x2) (by unfold FR1; rw [if_pos k2'])
  have k2' : ¬ v.kind = 2 := fun hh => k2 (e1.trans hh)
  refine .condE (fun k3 => ?_) (fun k3 => ?_)
  · have k3' : v.kind = 3 := e1.symm.trans k3
    refine .ptr (.ldI B1' rfl (.ptr (.ldL B1' rfl (.letO ?_))))
    refine key _ _ x1' ?_
    unfold FR1
    rw [if_neg k2', if_pos k3', w64 (by omega) (by omega), hdl]
    show _ ↔ x.2.2.1 ≤ _
    rw [e3]
  have k3' : ¬ v.kind = 3 := fun hh => k3 (e1.trans hh)
  refine .condE (fun k4 => ?_) (fun k4 => ?_)
  · have k4' : v.kind = 4 := e1.symm.trans k4
    refine .ptr (.ldI B1' rfl (.ptr (.ldI B1' rfl ?_)))
    refine key _ _ x1' ?_
    unfold FR1
    rw [if_neg k2', if_neg k3', if_pos k4']
    show _ ↔ x.2.2.2.2.1 ≤ x.2.2.1
    rw [e3, e5]
  have k4' : ¬ v.kind = 4 := fun hh => k4 (e1.trans hh)
  refine .condE (fun k9 => ?_) (fun k9 => ?_)
  · have k9' : v.kind = 9 := e1.symm.trans k9
    refine .ptr (.ldL B1' rfl ?_)
    refine key _ _ x1' ?_
    unfold FR1
    rw [if_neg k2', if_neg k3', if_neg k4', if_pos k9', hdl]
    omega
  have k9' : ¬ v.kind = 9 := fun hh => k9 (e1.trans hh)
  refine .ret ⟨(decide_eq_true ⟨h0, ?_⟩).symm, x1'⟩
  unfold FR1
  rw [if_neg k2', if_neg k3', if_neg k4', if_neg k9']
  trivial
end Go.Proofs.Ythiccnmplgdheaa.T
