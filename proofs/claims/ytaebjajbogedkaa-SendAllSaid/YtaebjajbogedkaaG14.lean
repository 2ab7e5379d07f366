/- Lemmas about the typed texts (joined: SFrame3 SAck1 SAck2). -/
import Derived.Test.YtaebjajbogedkaaG13
import Derived.Test.YtaebjajbogedkaaG5
import Derived.Test.YtaebjajbogedkaaG6
import Derived.Test.YtaebjajbogedkaaG9
/- Chapter 5's functions over the typed texts: right frames. -/
set_option linter.unusedVariables false
set_option linter.unusedSimpArgs false
namespace Go.Proofs.Ytaebjajbogedkaa.T
open Go Go.Abs Go.Proofs
def bareV (v : FV) : FV :=
  if v.kind = 2 then ⟨v.kind, 0, 0, 0, 0, 0, false, [], v.spans⟩
  else if v.kind = 3 then ⟨v.kind, v.id, v.off, 0, 0, 0, v.fin, v.data, []⟩
  else if v.kind = 4 then ⟨v.kind, v.id, v.off, v.a, v.b, 0, false, [], []⟩
  else if v.kind = 5 ∨ v.kind = 7 then ⟨v.kind, v.id, 0, v.a, 0, 0, false, [], []⟩
  else if v.kind = 6 ∨ v.kind = 12 then ⟨v.kind, 0, 0, v.a, 0, 0, false, [], []⟩
  else if v.kind = 8 then ⟨v.kind, 0, 0, v.a, 0, 0, v.fin, [], []⟩
  else if v.kind = 9 then ⟨v.kind, 0, 0, 0, 0, 0, false, v.data, []⟩
  else if v.kind = 10 ∨ v.kind = 11 then ⟨v.kind, v.id, 0, 0, 0, 0, false, [], []⟩
  else ⟨v.kind, 0, 0, 0, 0, 0, false, [], []⟩
theorem rdR_nil (h : H) : RdR h ⟨none, 0, 0⟩ [] := rd_nil 2 h
theorem rdB_nil (h : H) : RdB h ⟨none, 0, 0⟩ [] := rd_nil 1 h
theorem bareX_rd {h : H} {x : F9} {v : FV} (r : FRd h x v) : FRd h (bareX x) (bareV v) := by
  obtain ⟨e1, e2, e3, e4, e5, e6, e7⟩ := r.e
  have d := r.data
  have s := r.spans
  have n1 := rdB_nil h
  have n2 := rdR_nil h
  unfold bareX bareV
  rw [e1]
  (repeat' split) <;> first | exact ⟨⟨rfl, rfl, rfl, rfl, rfl, rfl, rfl⟩, by first | exact d | exact n1, by first | exact s | exact n2⟩ | exact ⟨⟨rfl, e2, rfl, e4, rfl, rfl, rfl⟩, by first | exact d | exact n1, by first | exact s | exact n2⟩ | exact ⟨⟨rfl, e2, e3, e4, e5, rfl, rfl⟩, by first | exact d | exact n1, by first | exact s | exact n2⟩ | exact ⟨⟨rfl, e2, e3, rfl, rfl, rfl, e7⟩, by first | exact d | exact n1, by first | exact s | exact n2⟩ | exact ⟨⟨rfl, rfl, rfl, e4, rfl, rfl, rfl⟩, by first | exact d | exact n1, by first | exact s | exact n2⟩ | exact ⟨⟨rfl, rfl, rfl, e4, rfl, rfl, e7⟩, by first | exact d | exact n1, by first | exact s | exact n2⟩ | exact ⟨⟨rfl, e2, rfl, rfl, rfl, rfl, rfl⟩, by first | exact d | exact n1, by first | exact s | exact n2⟩
def FR0 (v : FV) : Prop := (1 ≤ v.kind ∧ v.kind ≤ 12) ∧ sameV v (bareV v) ∧ (okN v.id ∧ okN v.off ∧ okN v.a ∧ okN v.b) ∧ v.data.length ≤ 120
def FR1 (v : FV) : Prop := if v.kind = 2 then RSs v.spans else if v.kind = 3 then v.off ≤ 4611686018427387903 - v.data.length else if v.kind = 4 then v.b ≤ v.off else if v.kind = 9 then 0 < v.data.length else True
def FR (v : FV) : Prop := FR0 v ∧ FR1 v
instance (v : FV) : Decidable (FR0 v) := by unfold FR0; infer_instance
instance (v : FV) : Decidable (FR1 v) := by unfold FR1; infer_instance
instance (v : FV) : Decidable (FR v) := by unfold FR; infer_instance
theorem FRight_f {h : H} (w : WF h) {x : F9} {v : FV} (hx : FRd h x v) (h1 : v.data.length ≤ 2 ^ 47) (h2 : v.spans.length ≤ 2 ^ 40) : PO (frame_Right x h) (fun (a, h1) => a = decide (FR v) ∧ EX h h1) := by
  unfold frame_Right P.frame_Right
  obtain ⟨e1, e2, e3, e4, e5, e6, e7⟩ := hx.e
  have hdl := RdB.len hx.data
  refine PO.newB w fun g0 x0 B0 z0 w0 => ?_
  have B0' : Box g0 h.size (f9L x) := B0
  have hn0 := w0.nro
  refine PO.join (fun s => s.1.1 = some ⟨h.size, 0, some 0⟩ ∧ EX h s.2 ∧ Box s.2 h.size (f9L x) ∧ (s.1.2 = true ↔ ¬ FR0 v)) ?_ ?_
  · refine PO.letGrow w0 fun g1 x1 z1 w1 n1 => ?_
    have B1 := Box.kx x1 B0'
    refine .ldI B1 rfl (.condD (fun c => PO.letTick w1 fun g2 x2 z2 w2 => .retL ⟨rfl, (x0.trans x1).trans x2, Box.kx x2 B1, ?_⟩) (fun c => ?_))
    · have c' : x.1 < 1 := c
      simp only [true_iff]; exact fun hh => by have := hh.1.1; omega
    refine .ldI B1 rfl (.condD (fun c2 => PO.letTick w1 fun g2 x2 z2 w2 => .retL ⟨rfl, (x0.trans x1).trans x2, Box.kx x2 B1, ?_⟩) (fun c2 => ?_))
    · have c' : x.1 > 12 := c2
      simp only [true_iff]; exact fun hh => by have := hh.1.2; omega
    have hk : 1 ≤ v.kind ∧ v.kind ≤ 12 := by
      have c' : ¬ x.1 < 1 := c
      have c2' : ¬ x.1 > 12 := c2
      omega
    refine PO.ldF B1 (PO.ldF B1 (PO.call (bare_f w1 x) fun a g4 ⟨ea, x4⟩ => ?_))
    subst ea
    have f4 : FRd g4 x v := ((hx.ex x0).ex x1).ex x4
    refine PO.call (same_f x4.wf f4 (bareX_rd f4) h1 h2) fun a g5 ⟨ea, x5⟩ => ?_
    subst ea
    have B4 := Box.kx x4 B1
    have B5 := Box.kx x5 B4
    refine .condND (fun hs => PO.ldF B4 (.chkV rfl (PO.letTick x5.wf fun g2 x2 z2 w2 => .retL ⟨rfl, (((x0.trans x1).trans x4).trans x5).trans x2, Box.kx x2 B5, ?_⟩))) (fun hs => ?_)
    · simp only [true_iff]; exact fun hh => hs hh.2.1
    refine .ldI B5 rfl (.ldI B5 rfl (.ldI B5 rfl (.ldI B5 rfl ?_)))
    have hz45 := (x4.trans x5).size
    refine PO.addNew x5.wf (by decide) (EX.nn (x4.trans x5) (by omega) (n1 24 (by omega))) (by omega) (by rw [x5.nro, x4.nro, x1.nro]; omega) fun g7 N7 B7 => .addNil ?_
    have C7 := NW.kb N7 B5
    have y7 : EX h g7 := N7.ex0 ((((x0.trans x1).trans x4).trans x5)) (by have := x0.size; omega)
    have ri : RdI .i64 g7 ⟨some ⟨g0.size + 24, 0, some 0⟩, 4, 4⟩ [x.2.1, x.2.2.1, x.2.2.2.1, x.2.2.2.2.1] := B7.rd N7.wf rfl (capOk_self _ _ (by unfold B63; omega))
    refine PO.call (frmay_f ri (by simp)) fun a g8 ⟨ea, x8⟩ => ?_
    subst ea x8
    have hmay : (∀ n ∈ [x.2.1, x.2.2.1, x.2.2.2.1, x.2.2.2.2.1], okN n) ↔ (okN v.id ∧ okN v.off ∧ okN v.a ∧ okN v.b) := by rw [e2, e3, e4, e5]; simp
    refine .condND (fun hs2 => .addOff (by decide) (.addNil (PO.ldF B4 (.chkV rfl (.addOld B7.ne (.addNil (PO.letTick N7.wf fun g2 x2 z2 w2 => .retL ⟨rfl, y7.trans x2, Box.kx x2 C7, ?_⟩))))))) (fun hs2 => ?_)
    · simp only [true_iff]; exact fun hh => hs2 (hmay.2 hh.2.2.1)
    refine .addOld B7.ne (.addNil (.ldL C7 rfl (.addOld B7.ne (.addNil (.addOff (by decide) (.addNil (PO.ldF B4 (.chkV rfl (.addOld B7.ne (.addNil (PO.letTick N7.wf fun g2 x2 z2 w2 => .retL ⟨rfl, y7.trans x2, Box.kx x2 C7, ?_⟩)))))))))))
    rw [decide_eq_true_eq]
    constructor
    · intro hh hf; have := hf.2.2.2; omega
    · intro hh; exact Decidable.byContradiction fun h3 => hh ⟨hk, hs, hmay.1 hs2, by omega⟩
  rintro ⟨⟨p, bad⟩, g1⟩ ⟨ep, x1, B1, hb⟩
  have ep' : p = some ⟨h.size, 0, some 0⟩ := ep
  subst ep'
  have B1' : Box g1 h.size (f9L x) := B1
  have x1' : EX h g1 := x1
  have hb' : bad = true ↔ ¬ FR0 v := hb
  refine .cond (fun c => .ret ⟨(decide_eq_false (fun hh => hb'.1 c hh.1)).symm, x1'⟩) (fun c => ?_)
  have h0 : FR0 v := Decidable.byContradiction fun hh => by rw [hb'.2 hh] at c; simp at c
  have key : ∀ (P : Prop) [Decidable P] (g : H), EX h g → (FR1 v ↔ P) → PO (some (decide P, g)) (fun (a, h1) => a = decide (FR v) ∧ EX h h1) := fun P _ g y hp => .ret ⟨decide_eq_decide.2 ⟨fun q => ⟨h0, hp.2 q⟩, fun q => hp.1 q.2⟩, y⟩
  have hlx := h0.2.2.2
  refine .ptr (.ldI B1' rfl (.condE (fun k2 => ?_) (fun k2 => ?_)))
  · have k2' : v.kind = 2 := e1.symm.trans k2
    refine .ptr (.ldL B1' rfl (PO.call (rightSpans_f x1'.wf ((hx.ex x1').spans) h2) fun a g2 ⟨ea, x2⟩ => ?_))
    subst ea
    exact key _ _ (x1'.trans x2) (by unfold FR1; rw [if_pos k2'])
  have k2' : ¬ v.kind = 2 := fun hh => k2 (e1.trans hh)
  refine .condE (fun k3 => ?_) (fun k3 => ?_)
  · have k3' : v.kind = 3 := e1.symm.trans k3
    refine .ptr (.ldI B1' rfl (.ptr (.ldL B1' rfl (.letO ?_))))
    refine key _ _ x1' ?_
    unfold FR1
    rw [if_neg k2', if_pos k3', w64 (by omega) (by omega), hdl]
    show _ ↔ x.2.2.1 ≤ _
    rw [e3]
  have k3' : ¬ v.kind = 3 := fun hh => k3 (e1.trans hh)
  refine .condE (fun k4 => ?_) (fun k4 => ?_)
  · have k4' : v.kind = 4 := e1.symm.trans k4
    refine .ptr (.ldI B1' rfl (.ptr (.ldI B1' rfl ?_)))
    refine key _ _ x1' ?_
    unfold FR1
    rw [if_neg k2', if_neg k3', if_pos k4']
    show _ ↔ x.2.2.2.2.1 ≤ x.2.2.1
    rw [e3, e5]
  have k4' : ¬ v.kind = 4 := fun hh => k4 (e1.trans hh)
  refine .condE (fun k9 => ?_) (fun k9 => ?_)
  · have k9' : v.kind = 9 := e1.symm.trans k9
    refine .ptr (.ldL B1' rfl ?_)
    refine key _ _ x1' ?_
    unfold FR1
    rw [if_neg k2', if_neg k3', if_neg k4', if_pos k9', hdl]
    omega
  have k9' : ¬ v.kind = 9 := fun hh => k9 (e1.trans hh)
  refine .ret ⟨(decide_eq_true ⟨h0, ?_⟩).symm, x1'⟩
  unfold FR1
  rw [if_neg k2', if_neg k3', if_neg k4', if_neg k9']
  trivial
end Go.Proofs.Ytaebjajbogedkaa.T
/- Chapter 7's functions over the typed texts: what was seen, noted; spans taken out, turned about. -/
set_option linter.unusedVariables false
set_option linter.unusedSimpArgs false
namespace Go.Proofs.Ytaebjajbogedkaa.T
open Go Go.Abs Go.Proofs
/-- what was seen: at a box -/
def Seen (h : H) (b : Nat) (l : List Run) (owed : Bool) (nw : Int) : Prop := ∃ s, SetAt h b 0 [encSl s, .bool owed, .int .i64 nw] l
theorem Seen.kx {h h' : H} {b : Nat} {l : List Run} {owed : Bool} {nw : Int} (x : EX h h') (S : Seen h b l owed nw) : Seen h' b l owed nw := by
  obtain ⟨s, hs⟩ := S; exact ⟨s, hs.kx x⟩
/-- a set's cell that is turned -/
theorem SetAt.seen {h : H} {b : Nat} {s : Sl} {v : Value} {l : List Run} {owed : Bool} {nw : Int} (S : SetAt h b 0 (([encSl s, .bool owed, .int .i64 nw] : List Value).set 0 v) l) : ∃ s', v = encSl s' ∧ SetAt h b 0 [encSl s', .bool owed, .int .i64 nw] l := by
  obtain ⟨s', h1, h2, h3⟩ := S.ex
  have hv : v = encSl s' := Option.some.inj h1
  subst hv
  exact ⟨s', rfl, ⟨⟨s', rfl, h2, h3⟩, S.box⟩⟩
def okA (l : List Run) (nw num : Int) : Prop := (0 ≤ num ∧ num ≤ 4611686018427387903) ∧ ¬ mem l num ∧ ¬ num < nw - 64
instance (l : List Run) (nw num : Int) : Decidable (okA l nw num) := by unfold okA; infer_instance
def noteL (l : List Run) (nw num : Int) : List Run := if okA l nw num then dropS 0 (max nw num - 64) (addS num (num + 1) l) else l
theorem SetAt.st {h : H} {b i : Nat} {L : List Value} {l : List Run} {v : Value} {α : Type} {Q : α → Prop} {g : H → Option α} (S : SetAt h b 0 L l) (w : WF h) (hi : i < L.length) (h0 : i ≠ 0) (ho : oneC v = true)
    (p : ∀ h', SetAt h' b 0 (L.set i v) l → UP (· = b) h h' → h'.size = h.size → WF h' → PO (g h') Q) : PO (bindO (st1 h (add ⟨b, 0, some 0⟩ i) v) g) Q := by
  obtain ⟨s, h1, h2, h3⟩ := S.ex
  exact PO.st1 S.box w hi ho fun h' B u z w' => p h' ⟨⟨s, by rw [List.getElem?_set_ne h0]; exact h1, Rd.up h2 u h3, h3⟩, B⟩ u z w'
/-! plain laws of noting -/
theorem brg_id {n : Int} (h : 0 ≤ n ∧ n ≤ 4611686018427387904) : brg n = n := by unfold brg; omega
theorem note_nrm {l : List Run} {nw num : Int} (hn : Nrm (-1) 4611686018427387904 l) (h : okA l nw num) : Nrm (-1) 4611686018427387904 (noteL l nw num) := by
  unfold noteL
  rw [if_pos h]
  have h1 := h.1
  have ha : Nrm (-1) 4611686018427387904 (addS num (num + 1) l) := by
    unfold addS
    rw [brg_id (by omega), brg_id (by omega), if_pos (by omega)]
    exact addR_nrm _ _ _ _ _ hn (by omega) (by omega) (by omega)
  unfold dropS
  split
  · exact dropR_nrm _ _ _ _ _ ha (by assumption)
  · exact ha
theorem note_mem {l : List Run} {nw num n : Int} (hn : Nrm (-1) 4611686018427387904 l) (h : okA l nw num) (hw : nw ≤ 4611686018427387903) (h0 : 0 ≤ n) : mem (noteL l nw num) n ↔ (mem l n ∨ n = num) ∧ max nw num - 64 ≤ n := by
  unfold noteL
  rw [if_pos h]
  have h1 := h.1
  have ha : Nrm (-1) 4611686018427387904 (addR num (num + 1) false l) := addR_nrm _ _ _ _ _ hn (by omega) (by omega) (by omega)
  have hadd : addS num (num + 1) l = addR num (num + 1) false l := by
    unfold addS
    rw [brg_id (by omega), brg_id (by omega), if_pos (by omega)]
  have hm : mem (addR num (num + 1) false l) n ↔ mem l n ∨ n = num := by
    rw [addR_mem l _ _ num (num + 1) n hn (by omega)]
    exact or_congr Iff.rfl ⟨fun h => by omega, fun h => by omega⟩
  rw [hadd]
  unfold dropS
  have hb0 : brg 0 = 0 := brg_id (by omega)
  by_cases hc : 0 < max nw num - 64
  · have hb1 : brg (max nw num - 64) = max nw num - 64 := brg_id (by omega)
    rw [hb0, hb1, if_pos hc, dropR_mem 0 _ n _ _ _ ha hc, hm]
    exact and_congr Iff.rfl ⟨fun h => by omega, fun h => by omega⟩
  · have hb1 : brg (max nw num - 64) = 0 := by unfold brg; omega
    rw [hb0, hb1, if_neg (by omega), hm]
    exact ⟨fun h => ⟨h, by omega⟩, fun h => h.1⟩
theorem Nrm.length : ∀ {l : List Run} {lo e : Int}, Nrm lo e l → lo ≤ e → (l.length : Int) ≤ e - lo
  | [], lo, e, _, h => by simp; omega
  | r :: l, lo, e, ⟨h1, h2, h3, h4⟩, h => by
    have := Nrm.length h4 h3
    simp; omega
end Go.Proofs.Ytaebjajbogedkaa.T
/- Chapter 7's functions over the typed texts: spans taken out, turned about, a frame of them. -/
set_option linter.unusedVariables false
set_option linter.unusedSimpArgs false
namespace Go.Proofs.Ytaebjajbogedkaa.T
open Go Go.Abs Go.Proofs
def OwnR (h : H) (s : Sl) (l : List Run) : Prop := OwnS 2 h s (runsV l)
theorem OwnR.rd {h : H} {s : Sl} {l : List Run} (o : OwnR h s l) : RdR h s l := OwnS.rd o
theorem runsV_set : ∀ (l : List Run) (i : Nat) (r : Run), i < l.length → (runsV l).take (i * 2) ++ [.int .i64 r.1, .int .i64 r.2] ++ (runsV l).drop (i * 2 + 2) = runsV (l.set i r)
  | q :: l, 0, r, _ => by simp [runsV]
  | q :: l, i + 1, r, h => by
    have := runsV_set l i r (by simpa using h)
    rw [show (i + 1) * 2 = i * 2 + 1 + 1 by omega, show i * 2 + 1 + 1 + 2 = i * 2 + 2 + 1 + 1 by omega]
    simp only [runsV, List.take_succ_cons, List.drop_succ_cons, List.set_cons_succ, List.cons_append]
    rw [← this]
theorem runsV_set2 : ∀ (l : List Run) (i : Nat) (y : Int), i < l.length → (runsV l).take (i * 2 + 1) ++ [.int .i64 y] ++ (runsV l).drop (i * 2 + 1 + 1) = runsV (l.set i ((l.getD i (0, 0)).1, y))
  | q :: l, 0, y, _ => by simp [runsV]
  | q :: l, i + 1, y, h => by
    have := runsV_set2 l i y (by simpa using h)
    rw [show (i + 1) * 2 + 1 = i * 2 + 1 + 1 + 1 by omega, show i * 2 + 1 + 1 + 1 + 1 = i * 2 + 1 + 1 + 1 + 1 by omega]
    simp only [runsV, List.take_succ_cons, List.drop_succ_cons, List.set_cons_succ, List.cons_append, List.getD_cons_succ]
    rw [← this]
theorem OwnR.set {α : Type} {Q : α → Prop} {h : H} {s : Sl} {l : List Run} {a : Addr} (o : OwnR h s l) (w : WF h) (ha : s.base = some a) {i : Nat} (hi : i < l.length) (r : Run) {g : H → Option α}
    (p : ∀ h', OwnR h' s (l.set i r) → UP (· = a.block) h h' → h'.size = h.size → WF h' → PO (g h') Q) : PO (bindO (Abs.stZ [.int .i64, .int .i64] h (add a (i * 2)) (r : Int × Int)) g) Q := by
  have hl := runsV_length l
  obtain ⟨h', e, o', u, z⟩ := OwnS.stC o w ha (i * 2) [.int .i64 r.1, .int .i64 r.2] (by simp; omega) rfl
  refine .op (x := h') e (p h' ?_ u z u.wf)
  unfold OwnR
  rw [← runsV_set l i r hi]
  exact o'
theorem OwnR.set2 {α : Type} {Q : α → Prop} {h : H} {s : Sl} {l : List Run} {a : Addr} (o : OwnR h s l) (w : WF h) (ha : s.base = some a) {i : Nat} (hi : i < l.length) (y : Int) {g : H → Option α}
    (p : ∀ h', OwnR h' s (l.set i ((l.getD i (0, 0)).1, y)) → UP (· = a.block) h h' → h'.size = h.size → WF h' → PO (g h') Q) : PO (bindO (Abs.st1 h (add (add a (i * 2)) 1) (.int .i64 y)) g) Q := by
  have hl := runsV_length l
  obtain ⟨h', e, o', u, z⟩ := OwnS.stC o w ha (i * 2 + 1) [.int .i64 y] (by simp; omega) rfl
  rw [add_add]
  refine .op (x := h') e (p h' ?_ u z u.wf)
  unfold OwnR
  rw [← runsV_set2 l i y hi]
  exact o'
theorem cloneR_f {h : H} {s : Sl} {l : List Run} (w : WF h) (hr : RdR h s l) (hl : l.length ≤ 2 ^ 40) : PO (slices_Clone_2_int_2_int s h) (fun (a, h1) => OwnR h1 a l ∧ EX h h1 ∧ Fr h.size a ∧ BufR h1 a l) := by
  unfold slices_Clone_2_int_2_int
  refine .op (eqLT_nil s hr.nil) (.cond (fun c => .ret ?_) (fun c => ?_))
  · have hn : s.base = none := by simpa using c
    have hv := (Rd.nilOf hr hn).1
    have hl0 : l = [] := by cases l with | nil => rfl | cons r q => simp [runsV] at hv
    subst hl0
    exact ⟨OwnS.nil 2 h, EX.refl w, fr_nil _, buf_nil 2 h⟩
  · refine PO.newB (l := runsV []) w fun h1 x1 B1 z1 w1 => ?_
    have b0 : BufR h1 ⟨some ⟨h.size, 0, some 0⟩, 0, 0⟩ [] := B1.buf w1 rfl (by unfold B63; omega)
    have hlen := RdR.len hr
    obtain ⟨s', h', e, k1, x2, b2, _, f2⟩ := appT_ok (e := 100) (bytes := 16) (by omega) (by unfold B63; omega) w1 b0 (hr.ex x1) (runsV_oneC _) (by simp only; omega) (by simp only; omega)
    have b2' : BufR h' s' l := b2
    exact PO.callE e (.ret ⟨b2'.own, x2 h x1 (fr_new h _ _), f2 _ x1.size (fr_new h _ _), b2'⟩)
theorem clipR_f {h : H} {s : Sl} {l : List Run} (hr : OwnR h s l) (hl : l.length ≤ 2 ^ 40) : ∃ s', slices_Clip_2_int_2_int s h = some (s', h) ∧ OwnR h s' l ∧ s'.base = s.base := by
  have hlen := RdR.len hr.rd
  obtain ⟨s', e, r, _, hb⟩ := clip_base (by omega) (by unfold B63; omega) hr.rd (by rw [hlen]; unfold B63; omega)
  refine ⟨s', ?_, OwnS.sub hr hb r (Nat.le_refl _), hb⟩
  unfold slices_Clip_2_int_2_int
  rw [e, bindO_some]
theorem Spans_f {h : H} (w : WF h) {b k : Nat} {L : List Value} {l : List Run} (S : SetAt h b k L l) (hl : l.length ≤ 2 ^ 40) :
    PO (spans_Set_Spans (some (add ⟨b, 0, some 0⟩ k)) h) (fun (a, h1) => OwnR h1 a l ∧ EX h h1 ∧ Fr h.size a) := by
  unfold spans_Set_Spans
  obtain ⟨s, e1, r1, n1⟩ := S.ex
  refine .ptr ?_
  rw [addA_zero]
  refine .ldL S.box e1 (PO.call (cloneR_f w r1 hl) fun a h1 ⟨o1, x1, f1, _⟩ => ?_)
  obtain ⟨s', e2, o2, hb⟩ := clipR_f o1 hl
  exact .callE e2 (.ret ⟨o2, x1, fun p hp => f1 p (hb ▸ hp)⟩)
def decR (r : Run) : Run := (r.1, r.2 - 1)
def frV (l : List Run) : List Run := (l.reverse.take 8).map decR
end Go.Proofs.Ytaebjajbogedkaa.T
