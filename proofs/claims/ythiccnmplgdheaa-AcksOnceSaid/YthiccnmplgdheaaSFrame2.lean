/- Chapter 5's functions over the typed texts: same, may, right frames. -/
-- SEAT b
import Derived.Test.YthiccnmplgdheaaSFrame1
import Derived.Test.YthiccnmplgdheaaLHead1
set_option linter.unusedVariables false
set_option linter.unusedSimpArgs false
namespace Go.Proofs.Ythiccnmplgdheaa.T
open Go Go.Abs Go.Proofs
structure FV where
  kind : Int
  id : Int
  off : Int
  a : Int
  b : Int
  note : Int
  fin : Bool
  data : List UInt8
  spans : List Run
structure FRd (h : H) (x : F9) (v : FV) : Prop where
  e : x.1 = v.kind ∧ x.2.1 = v.id ∧ x.2.2.1 = v.off ∧ x.2.2.2.1 = v.a ∧ x.2.2.2.2.1 = v.b ∧ x.2.2.2.2.2.1 = v.note ∧ x.2.2.2.2.2.2.1 = v.fin
  data : RdB h x.2.2.2.2.2.2.2.1 v.data
  spans : RdR h x.2.2.2.2.2.2.2.2 v.spans
theorem FRd.ex {h h' : H} {x : F9} {v : FV} (y : EX h h') (r : FRd h x v) : FRd h' x v := ⟨r.e, r.data.ex y, r.spans.ex y⟩
def sameV (v w : FV) : Prop := v.kind = w.kind ∧ v.id = w.id ∧ v.off = w.off ∧ v.a = w.a ∧ v.b = w.b ∧ v.fin = w.fin ∧ v.data = w.data ∧ v.spans = w.spans
instance (v w : FV) : Decidable (sameV v w) := by unfold sameV; infer_instance
theorem eqR_f {h : H} {a b : Sl} {la lb : List Run} (w : WF h) (ha : RdR h a la) (hb : RdR h b lb) (hn : la.length ≤ 2 ^ 40) : PO (slices_Equal_2_int_2_int a b h) (fun (c, h1) => c = decide (la = lb) ∧ h1 = h) := by
  unfold slices_Equal_2_int_2_int
  have l1 := RdR.len ha
  have l2 := RdR.len hb
  refine .condNE (fun hne => .ret ⟨?_, rfl⟩) (fun he => ?_)
  · exact (decide_eq_false (fun e => hne (by rw [l1, l2, e]))).symm
  have hll : la.length = lb.length := by omega
  refine PO.loop (fun m st => ∃ i : Nat, st = ((a, (b, (((a.len : Nat) : Int), (i : Int)))), h) ∧ m + i = la.length ∧ la.take i = lb.take i) ?_ la.length _ ⟨0, rfl, rfl, rfl⟩
  rintro m st ⟨i, rfl, hm, ht⟩
  unfold slices_Equal_2_int_2_int_l1
  refine .condD (fun c => ?_) (fun c => ?_)
  · refine .ixR ha (by omega) (by omega) fun p _ _ _ e1 _ _ => .op e1 (.ixR hb (by omega) (by omega) fun q _ _ _ e2 _ _ => .op e2 ?_)
    simp only [Int.toNat_natCast]
    have ga : la[i]? = some (la.getD i (0, 0)) := by rw [List.getD_eq_getElem?_getD, List.getElem?_eq_getElem (by omega)]; rfl
    have gb : lb[i]? = some (lb.getD i (0, 0)) := by rw [List.getD_eq_getElem?_getD, List.getElem?_eq_getElem (by omega)]; rfl
    refine .condN (fun hf => ?_) (fun hf => ?_)
    · refine .retR ⟨?_, rfl⟩
      refine (decide_eq_false (fun e => ?_)).symm
      subst e
      exact absurd hf (by show ¬ ((la.getD i (0, 0)).1 == (la.getD i (0, 0)).1 && ((la.getD i (0, 0)).2 == (la.getD i (0, 0)).2 && true)) = false; simp)
    · refine .retL ⟨m - 1, by omega, i + 1, ?_, by omega, ?_⟩
      · rw [w64 (by omega) (by omega)]; rfl
      · have : la.getD i (0, 0) = lb.getD i (0, 0) := by
          simp only [Bool.and_true, Bool.and_eq_true, beq_iff_eq] at hf
          exact Prod.ext hf.1 hf.2
        rw [List.take_add_one, List.take_add_one, ht, ga, gb, this]
  · have : i = la.length := by omega
    subst this
    refine .retR ⟨(decide_eq_true ?_).symm, rfl⟩
    rw [List.take_of_length_le (Nat.le_refl _), List.take_of_length_le (by omega)] at ht
    exact ht
theorem same_f {h : H} (w : WF h) {x y : F9} {v u : FV} (hx : FRd h x v) (hy : FRd h y u) (h1 : v.data.length ≤ 2 ^ 47) (h2 : v.spans.length ≤ 2 ^ 40) : PO (frame_same x y h) (fun (a, h1) => a = decide (sameV v u) ∧ EX h h1) := by
  unfold frame_same P.frame_same
  refine PO.newB w fun g1 x1 B1 z1 w1 => PO.newB w1 fun g2 x2 B2 z2 w2 => ?_
  have C1 := Box.kx x2 B1
  have xx := x1.trans x2
  obtain ⟨a1, a2, a3, a4, a5, a6, a7⟩ := hx.e
  obtain ⟨b1, b2, b3, b4, b5, b6, b7⟩ := hy.e
  have no : ∀ {g : H}, EX h g → ¬ sameV v u → PO (some (false, g)) (fun (a, h1) => a = decide (sameV v u) ∧ EX h h1) := fun y hn => .ret ⟨(decide_eq_false hn).symm, y⟩
  refine .ldI C1 rfl (.ldI B2 rfl (.condE (fun e1 => ?_) (fun e1 => no xx fun s => e1 ((a1.trans s.1).trans b1.symm))))
  refine .ldI C1 rfl (.ldI B2 rfl (.condE (fun e2 => ?_) (fun e2 => no xx fun s => e2 ((a2.trans s.2.1).trans b2.symm))))
  refine .ldI C1 rfl (.ldI B2 rfl (.condE (fun e3 => ?_) (fun e3 => no xx fun s => e3 ((a3.trans s.2.2.1).trans b3.symm))))
  refine .ldI C1 rfl (.ldI B2 rfl (.condE (fun e4 => ?_) (fun e4 => no xx fun s => e4 ((a4.trans s.2.2.2.1).trans b4.symm))))
  refine .ldI C1 rfl (.ldI B2 rfl (.condE (fun e5 => ?_) (fun e5 => no xx fun s => e5 ((a5.trans s.2.2.2.2.1).trans b5.symm))))
  refine .ldB C1 rfl (.ldB B2 rfl (.condE (fun e6 => ?_) (fun e6 => no xx fun s => e6 ((a7.trans s.2.2.2.2.2.1).trans b7.symm))))
  refine .ldL C1 rfl (.ldL B2 rfl ?_)
  refine .callE (Equal_f (hx.data.ex xx) (hy.data.ex xx) h1) (.condD (fun e7 => ?_) (fun e7 => no xx fun s => e7 s.2.2.2.2.2.2.1))
  refine .ldL C1 rfl (.ldL B2 rfl (PO.call (eqR_f w2 (hx.spans.ex xx) (hy.spans.ex xx) h2) fun a g3 ⟨e8, x3⟩ => ?_))
  subst e8 x3
  refine .ret ⟨decide_eq_decide.2 ?_, xx⟩
  exact ⟨fun e8 => ⟨(a1.symm.trans e1).trans b1, (a2.symm.trans e2).trans b2, (a3.symm.trans e3).trans b3, (a4.symm.trans e4).trans b4, (a5.symm.trans e5).trans b5, (a7.symm.trans e6).trans b7, e7, e8⟩, fun s => s.2.2.2.2.2.2.2⟩
/-! may -/
theorem may1_f (n : Int) (h : H) : frame_may_1 n h = some (!decide (okN n), h) := by
  unfold frame_may_1
  simp only [condK_eq, decide_eq_true_eq]
  split
  · rw [decide_eq_false (show ¬ okN n by unfold okN; omega)]; rfl
  · by_cases hh : n > 4611686018427387903
    · rw [decide_eq_true hh, decide_eq_false (show ¬ okN n by unfold okN; omega)]; rfl
    · rw [decide_eq_false hh, decide_eq_true (show okN n by unfold okN; omega)]; rfl
theorem frmay_f {h : H} {s : Sl} {zs : List Int} (hr : RdI .i64 h s zs) (hl : zs.length ≤ 2 ^ 40) : PO (frame_may s h) (fun (a, h1) => a = decide (∀ n ∈ zs, okN n) ∧ h1 = h) := by
  unfold frame_may P.frame_may slices_ContainsFunc_int_frame_may_1 P.slices_ContainsFunc_int_frame_may_1 slices_IndexFunc_int_frame_may_1 P.slices_IndexFunc_int_frame_may_1
  have hlen := hr.len
  refine PO.call (P := fun (a, h1) => a = decide (¬ ∀ n ∈ zs, okN n) ∧ h1 = h) (PO.call (P := fun (a, h1) => (0 ≤ a ↔ ¬ ∀ n ∈ zs, okN n) ∧ h1 = h) ?_ fun a h1 ⟨e, x⟩ => .ret ⟨decide_eq_decide.2 e, x⟩) fun a h1 ⟨e, x⟩ => .ret ⟨?_, x⟩
  · refine PO.loop (fun m st => ∃ i : Nat, st = ((s, ((), (((s.len : Nat) : Int), (i : Int)))), h) ∧ m + i = zs.length ∧ ∀ n ∈ zs.take i, okN n) ?_ zs.length _ ⟨0, rfl, rfl, by simp⟩
    rintro m st ⟨i, rfl, hm, ht⟩
    unfold P.slices_IndexFunc_int_frame_may_1_l1
    refine .condD (fun c => ?_) (fun c => ?_)
    · refine .ixI hr (by omega) (by omega) fun a e => .op e (.callE (may1_f _ _) ?_)
      simp only [Int.toNat_natCast]
      have ga : zs[i]? = some (zs.getD i 0) := by rw [List.getD_eq_getElem?_getD, List.getElem?_eq_getElem (by omega)]; rfl
      refine .condND (fun hn => .retR ⟨⟨fun _ hall => hn (hall _ (List.mem_of_getElem? ga)), fun _ => by omega⟩, rfl⟩) (fun hp => .retL ⟨m - 1, by omega, i + 1, ?_, by omega, ?_⟩)
      · rw [w64 (by omega) (by omega)]; rfl
      · rw [List.take_add_one, ga]
        intro n hn
        rcases List.mem_append.1 hn with hn | hn
        · exact ht n hn
        · simp at hn; subst hn; exact hp
    · have : i = zs.length := by omega
      subst this
      rw [List.take_of_length_le (Nat.le_refl _)] at ht
      exact .retR ⟨⟨fun hh => by omega, fun hh => absurd ht hh⟩, rfl⟩
  · have e' : a = decide (¬ ∀ n ∈ zs, okN n) := e
    subst e'
    by_cases hh : ∀ n ∈ zs, okN n
    · rw [decide_eq_true hh, decide_eq_false (fun h => h hh)]; rfl
    · rw [decide_eq_false hh, decide_eq_true hh]; rfl
/-! an Ack's spans -/
def RSp : Option Int → List Run → Prop
  | _, [] => True
  | p, r :: l => (okN r.1 ∧ okN r.2) ∧ r.1 ≤ r.2 ∧ (∀ q, p = some q → 2 ≤ q - r.2) ∧ RSp (some r.1) l
def decRSp : (p : Option Int) → (l : List Run) → Decidable (RSp p l)
  | _, [] => .isTrue trivial
  | p, r :: l => by
    unfold RSp okN
    have := decRSp (some r.1) l
    cases p with
    | none => exact decidable_of_iff (((0 ≤ r.1 ∧ r.1 ≤ 4611686018427387903) ∧ 0 ≤ r.2 ∧ r.2 ≤ 4611686018427387903) ∧ r.1 ≤ r.2 ∧ RSp (some r.1) l) (by simp)
    | some q => exact decidable_of_iff (((0 ≤ r.1 ∧ r.1 ≤ 4611686018427387903) ∧ 0 ≤ r.2 ∧ r.2 ≤ 4611686018427387903) ∧ r.1 ≤ r.2 ∧ 2 ≤ q - r.2 ∧ RSp (some r.1) l) (by simp)
instance (p : Option Int) (l : List Run) : Decidable (RSp p l) := decRSp p l
def RSs (l : List Run) : Prop := RSp none l ∧ 1 ≤ l.length ∧ l.length ≤ 8
instance (l : List Run) : Decidable (RSs l) := by unfold RSs; infer_instance
def prevOf (l : List Run) (i : Nat) : Option Int := if i = 0 then none else some (l.getD (i - 1) (0, 0)).1
theorem rightSpans_f {h : H} (w : WF h) {s : Sl} {l : List Run} (hr : RdR h s l) (hl : l.length ≤ 2 ^ 40) : PO (frame_rightSpans s h) (fun (a, h1) => a = decide (RSs l) ∧ EX h h1) := by
  unfold frame_rightSpans
  have hlen := RdR.len hr
  have main : PO (loopO frame_rightSpans_l1 ((s, (s, (((s.len : Nat) : Int), 0))), h)) (fun r => (∃ h', r = Sum.inl (s, h') ∧ EX h h' ∧ RSp none l) ∨ (∃ h', r = Sum.inr (false, h') ∧ EX h h' ∧ ¬ RSp none l)) := by
    refine PO.loop (fun m st => ∃ (i : Nat) (h' : H), st = ((s, (s, (((s.len : Nat) : Int), (i : Int)))), h') ∧ m + i = l.length ∧ EX h h' ∧ (RSp (prevOf l i) (l.drop i) ↔ RSp none l) ∧ (∀ q, prevOf l i = some q → okN q)) ?_ l.length _ ⟨0, h, rfl, rfl, EX.refl w, by simp [prevOf], by simp [prevOf]⟩
    rintro m st ⟨i, h1, rfl, hm, hx, hiff, hq⟩
    unfold frame_rightSpans_l1 P.frame_rightSpans_l1
    refine .condD (fun c => ?_) (fun c => ?_)
    · have hd : l.drop i = l.getD i (0, 0) :: l.drop (i + 1) := by
        rw [List.drop_eq_getElem_cons (by omega)]; simp [List.getD, show i < l.length by omega]
      have hpn : prevOf l (i + 1) = some (l.getD i (0, 0)).1 := by unfold prevOf; rw [if_neg (by omega)]; rfl
      have rsc : ∀ (p : Option Int) (r : Run) (q : List Run), RSp p (r :: q) ↔ (okN r.1 ∧ okN r.2) ∧ r.1 ≤ r.2 ∧ (∀ u, p = some u → 2 ≤ u - r.2) ∧ RSp (some r.1) q := fun _ _ _ => Iff.rfl
      rw [hd, rsc] at hiff
      have hr1 := hr.ex hx
      have hwi : 0 < i → IntKind.wrap .i64 ((i : Int) - 1) = ((i - 1 : Nat) : Int) := fun hp => by rw [w64 (by omega) (by omega)]; omega
      refine .ixR hr1 (by omega) (by omega) fun a _ _ _ e1 _ _ => .op e1 ?_
      simp only [Int.toNat_natCast]
      generalize hR : l.getD i (0, 0) = r at *
      refine PO.newB hx.wf fun h2 x2 B2 z2 w2 => PO.stZ B2 w2 rfl rfl fun h3 B3 u3 z3 w3 => ?_
      have B3' : Box h3 h1.size [.int .i64 r.1, .int .i64 r.2] := B3
      have y3 : EX h1 h3 := u3.ex0 x2 (fun A hA e => by omega)
      have hn3 := w3.nro
      refine PO.join (fun st => ∃ (bad : Bool) (h4 : H), st = ((s, (s, (((s.len : Nat) : Int), ((i : Int), bad)))), h4) ∧ EX h1 h4 ∧ (bad = true ↔ ¬ ((okN r.1 ∧ okN r.2) ∧ r.1 ≤ r.2 ∧ ∀ u, prevOf l i = some u → 2 ≤ u - r.2))) ?_ ?_
      · refine PO.letGrow w3 fun h4 x4 z4 w4 n4 => ?_
        have B4 := Box.kx x4 B3'
        refine .ixA (by omega) (by omega) (.ldI B4 rfl (.ixA (by omega) (by omega) (.ldI B4 rfl ?_)))
        refine PO.addNew w4 (by decide) (n4 4 (by omega)) (by omega) (by rw [x4.nro]; omega) fun h5 N5 B5 => .addNil ?_
        have C5 := NW.kb N5 B4
        have y5 : EX h1 h5 := N5.ex0 (y3.trans x4) (by omega)
        have ri : RdI .i64 h5 ⟨some ⟨h3.size + 4, 0, some 0⟩, 2, 2⟩ [r.1, r.2] := B5.rd N5.wf rfl (capOk_self _ _ (by unfold B63; omega))
        refine PO.call (frmay_f ri (by simp)) fun a h6 ⟨e6, x6⟩ => ?_
        subst e6 x6
        have hmay : (∀ n ∈ [r.1, r.2], okN n) ↔ okN r.1 ∧ okN r.2 := by simp
        refine .condND (fun hb => .addOld B5.ne (.addNil (PO.letTick N5.wf fun h7 x7 z7 w7 => .retL ⟨true, h7, rfl, y5.trans x7, ?_⟩))) (fun hb => ?_)
        · simp only [true_iff]; exact fun hh => hb (hmay.2 hh.1)
        have hb' := hmay.1 hb
        refine .ixA (by omega) (by omega) (.addOld B5.ne (.addNil (.ldI C5 rfl (.ixA (by omega) (by omega) (.addOld B5.ne (.addNil (.ldI C5 rfl ?_)))))))
        refine .condD (fun hc => .addOld B5.ne (.addNil (PO.letTick N5.wf fun h7 x7 z7 w7 => .retL ⟨true, h7, rfl, y5.trans x7, ?_⟩))) (fun hc => ?_)
        · have hc' : r.1 > r.2 := hc
          simp only [true_iff]; exact fun hh => by omega
        have hc' : ¬ r.1 > r.2 := hc
        refine .condD (fun h0 => ?_) (fun h0 => .addOld B5.ne (.addNil (PO.letTick N5.wf fun h7 x7 z7 w7 => .retL ⟨false, h7, rfl, y5.trans x7, ?_⟩)))
        · have hip : 0 < i := by have h0' : (i : Int) > 0 := h0; omega
          rw [hwi hip]
          refine .ixR (hr1.ex y5) (by omega) (by omega) fun a _ _ ha _ ea _ => .ixA (by omega) (by omega) ?_
          simp only [Int.toNat_natCast] at ea
          have hpv : prevOf l i = some (l.getD (i - 1) (0, 0)).1 := by unfold prevOf; rw [if_neg (by omega)]
          have hq' := hq _ hpv
          refine .addOld B5.ne (.addNil (.op ea (.ixA (by omega) (by omega) (.addOld B5.ne (.addNil (.ldI C5 rfl ?_))))))
          refine .addOld B5.ne (.addNil (PO.letTick N5.wf fun h7 x7 z7 w7 => .retL ⟨_, h7, rfl, y5.trans x7, ?_⟩))
          unfold okN at hq' hb'
          rw [w64 (n := (l.getD (i - 1) (0, 0)).1 - r.2) (by omega) (by omega), decide_eq_true_eq]
          constructor
          · intro hh hall
            have := hall.2.2 _ hpv
            omega
          · intro hh
            refine Decidable.byContradiction fun h2 => hh ⟨hb', by omega, fun u hu => ?_⟩
            rw [hpv] at hu; cases hu; omega
        · have : i = 0 := by have h0' : ¬ (i : Int) > 0 := h0; omega
          subst this
          simp only [Bool.false_eq_true, false_iff, Decidable.not_not]
          exact ⟨hb', by omega, fun u hu => by simp [prevOf] at hu⟩
      · rintro _ ⟨bad, h4, rfl, x4, hbad⟩
        refine .cond (fun hb => .retR (.inr ⟨h4, rfl, hx.trans x4, ?_⟩)) (fun hb => .retL ⟨m - 1, by omega, i + 1, h4, ?_, by omega, hx.trans x4, ?_, ?_⟩)
        · exact fun hall => (hbad.1 hb) (by have := hiff.2 hall; exact ⟨this.1, this.2.1, this.2.2.1⟩)
        · show ((s, (s, (((s.len : Nat) : Int), IntKind.wrap .i64 ((i : Int) + 1)))), h4) = _
          rw [w64 (n := (i : Int) + 1) (by omega) (by omega)]; rfl
        · have hg : (okN r.1 ∧ okN r.2) ∧ r.1 ≤ r.2 ∧ ∀ u, prevOf l i = some u → 2 ≤ u - r.2 := Decidable.byContradiction fun hh => by rw [hbad.2 hh] at hb; simp at hb
          rw [hpn, ← hiff]
          exact ⟨fun hh => ⟨hg.1, hg.2.1, hg.2.2, hh⟩, fun hh => hh.2.2.2⟩
        · intro q hq2
          have hg : (okN r.1 ∧ okN r.2) ∧ r.1 ≤ r.2 ∧ ∀ u, prevOf l i = some u → 2 ≤ u - r.2 := Decidable.byContradiction fun hh => by rw [hbad.2 hh] at hb; simp at hb
          rw [hpn] at hq2; cases hq2; exact hg.1.1
    · have : i = l.length := by omega
      subst this
      rw [List.drop_length] at hiff
      exact .retR (.inl ⟨h1, rfl, hx, hiff.1 trivial⟩)
  refine PO.joinD (PO.mono main ?_)
  rintro r (⟨h', rfl, hx, hp⟩ | ⟨h', rfl, hx, hp⟩)
  · show PO _ _
    refine .condD (fun c => .ret ⟨decide_eq_decide.2 ?_, hx⟩) (fun c => .ret ⟨(decide_eq_false ?_).symm, hx⟩)
    · unfold RSs; constructor
      · intro hh; exact ⟨hp, by omega, by omega⟩
      · intro hh; have := hh.2.2; omega
    · unfold RSs; intro hh; have := hh.2.1; omega
  · refine ⟨(decide_eq_false ?_).symm, hx⟩
    unfold RSs; exact fun hh => hp hh.1
end Go.Proofs.Ythiccnmplgdheaa.T
