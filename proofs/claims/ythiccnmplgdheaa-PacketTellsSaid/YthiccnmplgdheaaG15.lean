/- Lemmas about the typed texts (joined: LHead1 SFrame2 SFrame3). -/
import Derived.Test.YthiccnmplgdheaaG14
import Derived.Test.YthiccnmplgdheaaG11
set_option linter.unusedVariables false
set_option linter.unusedSimpArgs false
namespace Go.Proofs.Ythiccnmplgdheaa.T
open Go Go.Abs Go.Proofs
theorem capOk_self (sz n : Nat) (h : n < B63) : CapOK sz n n := by unfold CapOK; rw [capK_exact h]; exact Nat.le_refl _
theorem Box.rdS {h : H} {b n : Nat} {xs : List Sl} (B : Box h b (xs.map encSl)) (w : WF h) (hn : xs.length = n) (hb : n < B63) : RdS h ⟨some ⟨b, 0, some 0⟩, n, n⟩ xs := by
  subst hn; exact B.rd w (by simp) (capOk_self _ _ hb)
theorem Box.rdB {h : H} {b n : Nat} {xs : List UInt8} (B : Box h b (vB xs)) (w : WF h) (hn : xs.length = n) (hb : n < B63) : RdB h ⟨some ⟨b, 0, some 0⟩, n, n⟩ xs := by
  subst hn; exact B.rd w (by simp [vB]) (capOk_self _ _ hb)
theorem PO.law {m : Option (Bool × H)} (p : PO m (fun (a, _) => a = true)) : ∃ h', m = some (true, h') := by
  obtain ⟨⟨a, h'⟩, e, ha⟩ := p
  have ha' : a = true := ha
  subst ha'
  exact ⟨h', e⟩
theorem slB_hi {h : H} {s : Sl} {l : List UInt8} (hr : RdB h s l) {hi : Int} (h1 : 0 <= hi) (h2 : hi <= l.length) : ∃ s', slT 1 h s none (some hi) none = some s' /\ RdB h s' (l.take hi.toNat) := by
  obtain ⟨s', e, r, _, _⟩ := sl_hi (hi := hi) (by omega) (by unfold B63; omega) hr h1 (by rw [RdB.len hr]; exact h2)
  refine ⟨s', e, ?_⟩
  unfold vB at r; unfold RdB vB
  rw [Nat.mul_one] at r
  rw [List.map_take]; exact r
theorem slB_lo {h : H} {s : Sl} {l : List UInt8} (hr : RdB h s l) {lo : Int} (h1 : 0 <= lo) (h2 : lo <= l.length) : ∃ s', slT 1 h s (some lo) none none = some s' /\ RdB h s' (l.drop lo.toNat) := by
  obtain ⟨s', e, r, _, _⟩ := sl_lo (lo := lo) (by omega) (by unfold B63; omega) hr h1 (by rw [RdB.len hr]; exact h2)
  refine ⟨s', e, ?_⟩
  unfold vB at r; unfold RdB vB
  rw [Nat.mul_one] at r
  rw [List.map_drop]; exact r
abbrev RNG (n : Int) : Prop := -9223372036854775808 <= n /\ n <= 9223372036854775807
theorem emod_b (a : Int) {m : Int} (h : 0 < m) : 0 <= a % m /\ a % m < m := ⟨Int.emod_nonneg a (by omega), Int.emod_lt_of_pos a h⟩
structure FV where
  kind : Int
  id : Int
  off : Int
  a : Int
  b : Int
  note : Int
  fin : Bool
  data : List UInt8
  spans : List Run
structure FRd (h : H) (x : F9) (v : FV) : Prop where
  e : x.1 = v.kind /\ x.2.1 = v.id /\ x.2.2.1 = v.off /\ x.2.2.2.1 = v.a /\ x.2.2.2.2.1 = v.b /\ x.2.2.2.2.2.1 = v.note /\ x.2.2.2.2.2.2.1 = v.fin
  data : RdB h x.2.2.2.2.2.2.2.1 v.data
  spans : RdR h x.2.2.2.2.2.2.2.2 v.spans
theorem FRd.ex {h h' : H} {x : F9} {v : FV} (y : EX h h') (r : FRd h x v) : FRd h' x v := ⟨r.e, r.data.ex y, r.spans.ex y⟩
def sameV (v w : FV) : Prop := v.kind = w.kind /\ v.id = w.id /\ v.off = w.off /\ v.a = w.a /\ v.b = w.b /\ v.fin = w.fin /\ v.data = w.data /\ v.spans = w.spans
instance (v w : FV) : Decidable (sameV v w) := by unfold sameV; infer_instance
theorem eqR_f {h : H} {a b : Sl} {la lb : List Run} (w : WF h) (ha : RdR h a la) (hb : RdR h b lb) (hn : la.length <= 2 ^ 40) : PO (slices_Equal_2_int_2_int a b h) (fun (c, h1) => c = decide (la = lb) /\ h1 = h) := by
  unfold slices_Equal_2_int_2_int
  have l1 := RdR.len ha
  have l2 := RdR.len hb
  refine .condNE (fun hne => .ret ⟨?_, rfl⟩) (fun he => ?_)
  · exact (decide_eq_false (fun e => hne (by rw [l1, l2, e]))).symm
  have hll : la.length = lb.length := by omega
  refine PO.loop (fun m st => ∃ i : Nat, st = ((a, (b, (((a.len : Nat) : Int), (i : Int)))), h) /\ m + i = la.length /\ la.take i = lb.take i) ?_ la.length _ ⟨0, rfl, rfl, rfl⟩
  rintro m st ⟨i, rfl, hm, ht⟩
  unfold slices_Equal_2_int_2_int_l1
  refine .condD (fun c => ?_) (fun c => ?_)
  · refine .ixR ha (by omega) (by omega) fun p _ _ _ e1 _ _ => .op e1 (.ixR hb (by omega) (by omega) fun q _ _ _ e2 _ _ => .op e2 ?_)
    simp only [Int.toNat_natCast]
    have ga : la[i]? = some (la.getD i (0, 0)) := by rw [List.getD_eq_getElem?_getD, List.getElem?_eq_getElem (by omega)]; rfl
    have gb : lb[i]? = some (lb.getD i (0, 0)) := by rw [List.getD_eq_getElem?_getD, List.getElem?_eq_getElem (by omega)]; rfl
    refine .condN (fun hf => ?_) (fun hf => ?_)
    · refine .retR ⟨?_, rfl⟩
      refine (decide_eq_false (fun e => ?_)).symm
      subst e
      exact absurd hf (by show ¬ ((la.getD i (0, 0)).1 == (la.getD i (0, 0)).1 && ((la.getD i (0, 0)).2 == (la.getD i (0, 0)).2 && true)) = false; simp)
    · refine .retL ⟨m - 1, by omega, i + 1, ?_, by omega, ?_⟩
      · rw [w64 (by omega) (by omega)]; rfl
      · have : la.getD i (0, 0) = lb.getD i (0, 0) := by
          simp only [Bool.and_true, Bool.and_eq_true, beq_iff_eq] at hf
          exact Prod.ext hf.1 hf.2
        rw [List.take_add_one, List.take_add_one, ht, ga, gb, this]
  · have : i = la.length := by omega
    subst this
    refine .retR ⟨(decide_eq_true ?_).symm, rfl⟩
    rw [List.take_of_length_le (Nat.le_refl _), List.take_of_length_le (by omega)] at ht
    exact ht
theorem same_f {h : H} (w : WF h) {x y : F9} {v u : FV} (hx : FRd h x v) (hy : FRd h y u) (h1 : v.data.length <= 2 ^ 47) (h2 : v.spans.length <= 2 ^ 40) : PO (frame_same x y h) (fun (a, h1) => a = decide (sameV v u) /\ EX h h1) := by
  unfold frame_same P.frame_same
  refine PO.newB w fun g1 x1 B1 z1 w1 => PO.newB w1 fun g2 x2 B2 z2 w2 => ?_
  have C1 := Box.kx x2 B1
  have xx := x1.trans x2
  obtain ⟨a1, a2, a3, a4, a5, a6, a7⟩ := hx.e
  obtain ⟨b1, b2, b3, b4, b5, b6, b7⟩ := hy.e
  have no : ∀ {g : H}, EX h g -> ¬ sameV v u -> PO (some (false, g)) (fun (a, h1) => a = decide (sameV v u) /\ EX h h1) := fun y hn => .ret ⟨(decide_eq_false hn).symm, y⟩
  refine .ldI C1 rfl (.ldI B2 rfl (.condE (fun e1 => ?_) (fun e1 => no xx fun s => e1 ((a1.trans s.1).trans b1.symm))))
  refine .ldI C1 rfl (.ldI B2 rfl (.condE (fun e2 => ?_) (fun e2 => no xx fun s => e2 ((a2.trans s.2.1).trans b2.symm))))
  refine .ldI C1 rfl (.ldI B2 rfl (.condE (fun e3 => ?_) (fun e3 => no xx fun s => e3 ((a3.trans s.2.2.1).trans b3.symm))))
  refine .ldI C1 rfl (.ldI B2 rfl (.condE (fun e4 => ?_) (fun e4 => no xx fun s => e4 ((a4.trans s.2.2.2.1).trans b4.symm))))
  refine .ldI C1 rfl (.ldI B2 rfl (.condE (fun e5 => ?_) (fun e5 => no xx fun s => e5 ((a5.trans s.2.2.2.2.1).trans b5.symm))))
  refine .ldB C1 rfl (.ldB B2 rfl (.condE (fun e6 => ?_) (fun e6 => no xx fun s => e6 ((a7.trans s.2.2.2.2.2.1).trans b7.symm))))
  refine .ldL C1 rfl (.ldL B2 rfl ?_)
  refine .callE (Equal_f (hx.data.ex xx) (hy.data.ex xx) h1) (.condD (fun e7 => ?_) (fun e7 => no xx fun s => e7 s.2.2.2.2.2.2.1))
  refine .ldL C1 rfl (.ldL B2 rfl (PO.call (eqR_f w2 (hx.spans.ex xx) (hy.spans.ex xx) h2) fun a g3 ⟨e8, x3⟩ => ?_))
  subst e8 x3
  refine .ret ⟨decide_eq_decide.2 ?_, xx⟩
  exact ⟨fun e8 => ⟨(a1.symm.trans e1).trans b1, (a2.symm.trans e2).trans b2, (a3.symm.trans e3).trans b3, (a4.symm.trans e4).trans b4, (a5.symm.trans e5).trans b5, (a7.symm.trans e6).trans b7, e7, e8⟩, fun s => s.2.2.2.2.2.2.2⟩
theorem may1_f (n : Int) (h : H) : frame_may_1 n h = some (!decide (okN n), h) := by
  unfold frame_may_1
  simp only [condK_eq, decide_eq_true_eq]
  split
  · rw [decide_eq_false (show ¬ okN n by unfold okN; omega)]; rfl
  · by_cases hh : n > 4611686018427387903
    · rw [decide_eq_true hh, decide_eq_false (show ¬ okN n by unfold okN; omega)]; rfl
    · rw [decide_eq_false hh, decide_eq_true (show okN n by unfold okN; omega)]; rfl
theorem frmay_f {h : H} {s : Sl} {zs : List Int} (hr : RdI .i64 h s zs) (hl : zs.length <= 2 ^ 40) : PO (frame_may s h) (fun (a, h1) => a = decide (∀ n ∈ zs, okN n) /\ h1 = h) := by
  unfold frame_may P.frame_may slices_ContainsFunc_int_frame_may_1 P.slices_ContainsFunc_int_frame_may_1 slices_IndexFunc_int_frame_may_1 P.slices_IndexFunc_int_frame_may_1
  have hlen := hr.len
  refine PO.call (P := fun (a, h1) => a = decide (¬ ∀ n ∈ zs, okN n) /\ h1 = h) (PO.call (P := fun (a, h1) => (0 <= a ↔ ¬ ∀ n ∈ zs, okN n) /\ h1 = h) ?_ fun a h1 ⟨e, x⟩ => .ret ⟨decide_eq_decide.2 e, x⟩) fun a h1 ⟨e, x⟩ => .ret ⟨?_, x⟩
  · refine PO.loop (fun m st => ∃ i : Nat, st = ((s, ((), (((s.len : Nat) : Int), (i : Int)))), h) /\ m + i = zs.length /\ ∀ n ∈ zs.take i, okN n) ?_ zs.length _ ⟨0, rfl, rfl, by simp⟩
    rintro m st ⟨i, rfl, hm, ht⟩
    unfold P.slices_IndexFunc_int_frame_may_1_l1
    refine .condD (fun c => ?_) (fun c => ?_)
    · refine .ixI hr (by omega) (by omega) fun a e => .op e (.callE (may1_f _ _) ?_)
      simp only [Int.toNat_natCast]
      have ga : zs[i]? = some (zs.getD i 0) := by rw [List.getD_eq_getElem?_getD, List.getElem?_eq_getElem (by omega)]; rfl
      refine .condND (fun hn => .retR ⟨⟨fun _ hall => hn (hall _ (List.mem_of_getElem? ga)), fun _ => by omega⟩, rfl⟩) (fun hp => .retL ⟨m - 1, by omega, i + 1, ?_, by omega, ?_⟩)
      · rw [w64 (by omega) (by omega)]; rfl
      · rw [List.take_add_one, ga]
        intro n hn
        rcases List.mem_append.1 hn with hn | hn
        · exact ht n hn
        · simp at hn; subst hn; exact hp
    · have : i = zs.length := by omega
      subst this
      rw [List.take_of_length_le (Nat.le_refl _)] at ht
      exact .retR ⟨⟨fun hh => by omega, fun hh => absurd ht hh⟩, rfl⟩
  · have e' : a = decide (¬ ∀ n ∈ zs, okN n) := e
    subst e'
    by_cases hh : ∀ n ∈ zs, okN n
    · rw [decide_eq_true hh, decide_eq_false (fun h => h hh)]; rfl
    · rw [decide_eq_false hh, decide_eq_true hh]; rfl
def RSp : Option Int -> List Run -> Prop
  | _, [] => True
  | p, r :: l => (okN r.1 /\ okN r.2) /\ r.1 <= r.2 /\ (∀ q, p = some q -> 2 <= q - r.2) /\ RSp (some r.1) l
def decRSp : (p : Option Int) -> (l : List Run) -> Decidable (RSp p l)
  | _, [] => .isTrue trivial
  | p, r :: l => by
    unfold RSp okN
    have := decRSp (some r.1) l
    cases p with
    | none => exact decidable_of_iff (((0 <= r.1 /\ r.1 <= 4611686018427387903) /\ 0 <= r.2 /\ r.2 <= 4611686018427387903) /\ r.1 <= r.2 /\ RSp (some r.1) l) (by simp)
    | some q => exact decidable_of_iff (((0 <= r.1 /\ r.1 <= 4611686018427387903) /\ 0 <= r.2 /\ r.2 <= 4611686018427387903) /\ r.1 <= r.2 /\ 2 <= q - r.2 /\ RSp (some r.1) l) (by simp)
instance (p : Option Int) (l : List Run) : Decidable (RSp p l) := decRSp p l
def RSs (l : List Run) : Prop := RSp none l /\ 1 <= l.length /\ l.length <= 8
instance (l : List Run) : Decidable (RSs l) := by unfold RSs; infer_instance
def prevOf (l : List Run) (i : Nat) : Option Int := if i = 0 then none else some (l.getD (i - 1) (0, 0)).1
theorem rightSpans_f {h : H} (w : WF h) {s : Sl} {l : List Run} (hr : RdR h s l) (hl : l.length <= 2 ^ 40) : PO (frame_rightSpans s h) (fun (a, h1) => a = decide (RSs l) /\ EX h h1) := by
  unfold frame_rightSpans
  have hlen := RdR.len hr
  have main : PO (loopO frame_rightSpans_l1 ((s, (s, (((s.len : Nat) : Int), 0))), h)) (fun r => (∃ h', r = Sum.inl (s, h') /\ EX h h' /\ RSp none l) \/ (∃ h', r = Sum.inr (false, h') /\ EX h h' /\ ¬ RSp none l)) := by
    refine PO.loop (fun m st => ∃ (i : Nat) (h' : H), st = ((s, (s, (((s.len : Nat) : Int), (i : Int)))), h') /\ m + i = l.length /\ EX h h' /\ (RSp (prevOf l i) (l.drop i) ↔ RSp none l) /\ (∀ q, prevOf l i = some q -> okN q)) ?_ l.length _ ⟨0, h, rfl, rfl, EX.refl w, by simp [prevOf], by simp [prevOf]⟩
    rintro m st ⟨i, h1, rfl, hm, hx, hiff, hq⟩
    unfold frame_rightSpans_l1 P.frame_rightSpans_l1
    refine .condD (fun c => ?_) (fun c => ?_)
    · have hd : l.drop i = l.getD i (0, 0) :: l.drop (i + 1) := by
        rw [List.drop_eq_getElem_cons (by omega)]; simp [List.getD, show i < l.length by omega]
      have hpn : prevOf l (i + 1) = some (l.getD i (0, 0)).1 := by unfold prevOf; rw [if_neg (by omega)]; rfl
      have rsc : ∀ (p : Option Int) (r : Run) (q : List Run), RSp p (r :: q) ↔ (okN r.1 /\ okN r.2) /\ r.1 <= r.2 /\ (∀ u, p = some u -> 2 <= u - r.2) /\ RSp (some r.1) q := fun _ _ _ => Iff.rfl
      rw [hd, rsc] at hiff
      have hr1 := hr.ex hx
      have hwi : 0 < i -> IntKind.wrap .i64 ((i : Int) - 1) = ((i - 1 : Nat) : Int) := fun hp => by rw [w64 (by omega) (by omega)]; omega
      refine .ixR hr1 (by omega) (by omega) fun a _ _ _ e1 _ _ => .op e1 ?_
      simp only [Int.toNat_natCast]
      generalize hR : l.getD i (0, 0) = r at *
      refine PO.newB hx.wf fun h2 x2 B2 z2 w2 => PO.stZ B2 w2 rfl rfl fun h3 B3 u3 z3 w3 => ?_
      have B3' : Box h3 h1.size [.int .i64 r.1, .int .i64 r.2] := B3
      have y3 : EX h1 h3 := u3.ex0 x2 (fun A hA e => by omega)
      have hn3 := w3.nro
      refine PO.join (fun st => ∃ (bad : Bool) (h4 : H), st = ((s, (s, (((s.len : Nat) : Int), ((i : Int), bad)))), h4) /\ EX h1 h4 /\ (bad = true ↔ ¬ ((okN r.1 /\ okN r.2) /\ r.1 <= r.2 /\ ∀ u, prevOf l i = some u -> 2 <= u - r.2))) ?_ ?_
      · refine PO.letGrow w3 fun h4 x4 z4 w4 n4 => ?_
        have B4 := Box.kx x4 B3'
        refine .ixA (by omega) (by omega) (.ldI B4 rfl (.ixA (by omega) (by omega) (.ldI B4 rfl ?_)))
        refine PO.addNew w4 (by decide) (n4 4 (by omega)) (by omega) (by rw [x4.nro]; omega) fun h5 N5 B5 => .addNil ?_
        have C5 := NW.kb N5 B4
        have y5 : EX h1 h5 := N5.ex0 (y3.trans x4) (by omega)
        have ri : RdI .i64 h5 ⟨some ⟨h3.size + 4, 0, some 0⟩, 2, 2⟩ [r.1, r.2] := B5.rd N5.wf rfl (capOk_self _ _ (by unfold B63; omega))
        refine PO.call (frmay_f ri (by simp)) fun a h6 ⟨e6, x6⟩ => ?_
        subst e6 x6
        have hmay : (∀ n ∈ [r.1, r.2], okN n) ↔ okN r.1 /\ okN r.2 := by simp
        refine .condND (fun hb => .addOld B5.ne (.addNil (PO.letTick N5.wf fun h7 x7 z7 w7 => .retL ⟨true, h7, rfl, y5.trans x7, ?_⟩))) (fun hb => ?_)
        · simp only [true_iff]; exact fun hh => hb (hmay.2 hh.1)
        have hb' := hmay.1 hb
        refine .ixA (by omega) (by omega) (.addOld B5.ne (.addNil (.ldI C5 rfl (.ixA (by omega) (by omega) (.addOld B5.ne (.addNil (.ldI C5 rfl ?_)))))))
        refine .condD (fun hc => .addOld B5.ne (.addNil (PO.letTick N5.wf fun h7 x7 z7 w7 => .retL ⟨true, h7, rfl, y5.trans x7, ?_⟩))) (fun hc => ?_)
        · have hc' : r.1 > r.2 := hc
          simp only [true_iff]; exact fun hh => by omega
        have hc' : ¬ r.1 > r.2 := hc
        refine .condD (fun h0 => ?_) (fun h0 => .addOld B5.ne (.addNil (PO.letTick N5.wf fun h7 x7 z7 w7 => .retL ⟨false, h7, rfl, y5.trans x7, ?_⟩)))
        · have hip : 0 < i := by have h0' : (i : Int) > 0 := h0; omega
          rw [hwi hip]
          refine .ixR (hr1.ex y5) (by omega) (by omega) fun a _ _ ha _ ea _ => .ixA (by omega) (by omega) ?_
          simp only [Int.toNat_natCast] at ea
          have hpv : prevOf l i = some (l.getD (i - 1) (0, 0)).1 := by unfold prevOf; rw [if_neg (by omega)]
          have hq' := hq _ hpv
          refine .addOld B5.ne (.addNil (.op ea (.ixA (by omega) (by omega) (.addOld B5.ne (.addNil (.ldI C5 rfl ?_))))))
          refine .addOld B5.ne (.addNil (PO.letTick N5.wf fun h7 x7 z7 w7 => .retL ⟨_, h7, rfl, y5.trans x7, ?_⟩))
          unfold okN at hq' hb'
          rw [w64 (n := (l.getD (i - 1) (0, 0)).1 - r.2) (by omega) (by omega), decide_eq_true_eq]
          constructor
          · intro hh hall
            have := hall.2.2 _ hpv
            omega
          · intro hh
            refine Decidable.byContradiction fun h2 => hh ⟨hb', by omega, fun u hu => ?_⟩
            rw [hpv] at hu; cases hu; omega
        · have : i = 0 := by have h0' : ¬ (i : Int) > 0 := h0; omega
          subst this
          simp only [Bool.false_eq_true, false_iff, Decidable.not_not]
          exact ⟨hb', by omega, fun u hu => by simp [prevOf] at hu⟩
      · rintro _ ⟨bad, h4, rfl, x4, hbad⟩
        refine .cond (fun hb => .retR (.inr ⟨h4, rfl, hx.trans x4, ?_⟩)) (fun hb => .retL ⟨m - 1, by omega, i + 1, h4, ?_, by omega, hx.trans x4, ?_, ?_⟩)
        · exact fun hall => (hbad.1 hb) (by have := hiff.2 hall; exact ⟨this.1, this.2.1, this.2.2.1⟩)
        · show ((s, (s, (((s.len : Nat) : Int), IntKind.wrap .i64 ((i : Int) + 1)))), h4) = _
          rw [w64 (n := (i : Int) + 1) (by omega) (by omega)]; rfl
        · have hg : (okN r.1 /\ okN r.2) /\ r.1 <= r.2 /\ ∀ u, prevOf l i = some u -> 2 <= u - r.2 := Decidable.byContradiction fun hh => by rw [hbad.2 hh] at hb; simp at hb
          rw [hpn, <- hiff]
          exact ⟨fun hh => ⟨hg.1, hg.2.1, hg.2.2, hh⟩, fun hh => hh.2.2.2⟩
        · intro q hq2
          have hg : (okN r.1 /\ okN r.2) /\ r.1 <= r.2 /\ ∀ u, prevOf l i = some u -> 2 <= u - r.2 := Decidable.byContradiction fun hh => by rw [hbad.2 hh] at hb; simp at hb
          rw [hpn] at hq2; cases hq2; exact hg.1.1
    · have : i = l.length := by omega
      subst this
      rw [List.drop_length] at hiff
      exact .retR (.inl ⟨h1, rfl, hx, hiff.1 trivial⟩)
  refine PO.joinD (PO.mono main ?_)
  rintro r (⟨h', rfl, hx, hp⟩ | ⟨h', rfl, hx, hp⟩)
  · show PO _ _
    refine .condD (fun c => .ret ⟨decide_eq_decide.2 ?_, hx⟩) (fun c => .ret ⟨(decide_eq_false ?_).symm, hx⟩)
    · unfold RSs; constructor
      · intro hh; exact ⟨hp, by omega, by omega⟩
      · intro hh; have := hh.2.2; omega
    · unfold RSs; intro hh; have := hh.2.1; omega
  · refine ⟨(decide_eq_false ?_).symm, hx⟩
    unfold RSs; exact fun hh => hp hh.1
def bareV (v : FV) : FV :=
  if v.kind = 2 then ⟨v.kind, 0, 0, 0, 0, 0, false, [], v.spans⟩
  else if v.kind = 3 then ⟨v.kind, v.id, v.off, 0, 0, 0, v.fin, v.data, []⟩
  else if v.kind = 4 then ⟨v.kind, v.id, v.off, v.a, v.b, 0, false, [], []⟩
  else if v.kind = 5 \/ v.kind = 7 then ⟨v.kind, v.id, 0, v.a, 0, 0, false, [], []⟩
  else if v.kind = 6 \/ v.kind = 12 then ⟨v.kind, 0, 0, v.a, 0, 0, false, [], []⟩
  else if v.kind = 8 then ⟨v.kind, 0, 0, v.a, 0, 0, v.fin, [], []⟩
  else if v.kind = 9 then ⟨v.kind, 0, 0, 0, 0, 0, false, v.data, []⟩
  else if v.kind = 10 \/ v.kind = 11 then ⟨v.kind, v.id, 0, 0, 0, 0, false, [], []⟩
  else ⟨v.kind, 0, 0, 0, 0, 0, false, [], []⟩
theorem rdR_nil (h : H) : RdR h ⟨none, 0, 0⟩ [] := rd_nil 2 h
theorem rdB_nil (h : H) : RdB h ⟨none, 0, 0⟩ [] := rd_nil 1 h
theorem bareX_rd {h : H} {x : F9} {v : FV} (r : FRd h x v) : FRd h (bareX x) (bareV v) := by
  obtain ⟨e1, e2, e3, e4, e5, e6, e7⟩ := r.e
  have d := r.data
  have s := r.spans
  have n1 := rdB_nil h
  have n2 := rdR_nil h
  unfold bareX bareV
  rw [e1]
  (repeat' split) <;> first | exact ⟨⟨rfl, rfl, rfl, rfl, rfl, rfl, rfl⟩, by first | exact d | exact n1, by first | exact s | exact n2⟩ | exact ⟨⟨rfl, e2, rfl, e4, rfl, rfl, rfl⟩, by first | exact d | exact n1, by first | exact s | exact n2⟩ | exact ⟨⟨rfl, e2, e3, e4, e5, rfl, rfl⟩, by first | exact d | exact n1, by first | exact s | exact n2⟩ | exact ⟨⟨rfl, e2, e3, rfl, rfl, rfl, e7⟩, by first | exact d | exact n1, by first | exact s | exact n2⟩ | exact ⟨⟨rfl, rfl, rfl, e4, rfl, rfl, rfl⟩, by first | exact d | exact n1, by first | exact s | exact n2⟩ | exact ⟨⟨rfl, rfl, rfl, e4, rfl, rfl, e7⟩, by first | exact d | exact n1, by first | exact s | exact n2⟩ | exact ⟨⟨rfl, e2, rfl, rfl, rfl, rfl, rfl⟩, by first | exact d | exact n1, by first | exact s | exact n2⟩
def FR0 (v : FV) : Prop := (1 <= v.kind /\ v.kind <= 12) /\ sameV v (bareV v) /\ (okN v.id /\ okN v.off /\ okN v.a /\ okN v.b) /\ v.data.length <= 120
def FR1 (v : FV) : Prop := if v.kind = 2 then RSs v.spans else if v.kind = 3 then v.off <= 4611686018427387903 - v.data.length else if v.kind = 4 then v.b <= v.off else if v.kind = 9 then 0 < v.data.length else True
def FR (v : FV) : Prop := FR0 v /\ FR1 v
instance (v : FV) : Decidable (FR0 v) := by unfold FR0; infer_instance
instance (v : FV) : Decidable (FR1 v) := by unfold FR1; infer_instance
instance (v : FV) : Decidable (FR v) := by unfold FR; infer_instance
theorem FRight_f {h : H} (w : WF h) {x : F9} {v : FV} (hx : FRd h x v) (h1 : v.data.length <= 2 ^ 47) (h2 : v.spans.length <= 2 ^ 40) : PO (frame_Right x h) (fun (a, h1) => a = decide (FR v) /\ EX h h1) := by
  unfold frame_Right P.frame_Right
  obtain ⟨e1, e2, e3, e4, e5, e6, e7⟩ := hx.e
  have hdl := RdB.len hx.data
  refine PO.newB w fun g0 x0 B0 z0 w0 => ?_
  have B0' : Box g0 h.size (f9L x) := B0
  have hn0 := w0.nro
  refine PO.join (fun s => s.1.1 = some ⟨h.size, 0, some 0⟩ /\ EX h s.2 /\ Box s.2 h.size (f9L x) /\ (s.1.2 = true ↔ ¬ FR0 v)) ?_ ?_
  · refine PO.letGrow w0 fun g1 x1 z1 w1 n1 => ?_
    have B1 := Box.kx x1 B0'
    refine .ldI B1 rfl (.condD (fun c => PO.letTick w1 fun g2 x2 z2 w2 => .retL ⟨rfl, (x0.trans x1).trans x2, Box.kx x2 B1, ?_⟩) (fun c => ?_))
    · have c' : x.1 < 1 := c
      simp only [true_iff]; exact fun hh => by have := hh.1.1; omega
    refine .ldI B1 rfl (.condD (fun c2 => PO.letTick w1 fun g2 x2 z2 w2 => .retL ⟨rfl, (x0.trans x1).trans x2, Box.kx x2 B1, ?_⟩) (fun c2 => ?_))
    · have c' : x.1 > 12 := c2
      simp only [true_iff]; exact fun hh => by have := hh.1.2; omega
    have hk : 1 <= v.kind /\ v.kind <= 12 := by
      have c' : ¬ x.1 < 1 := c
      have c2' : ¬ x.1 > 12 := c2
      omega
    refine PO.ldF B1 (PO.ldF B1 (PO.call (bare_f w1 x) fun a g4 ⟨ea, x4⟩ => ?_))
    subst ea
    have f4 : FRd g4 x v := ((hx.ex x0).ex x1).ex x4
    refine PO.call (same_f x4.wf f4 (bareX_rd f4) h1 h2) fun a g5 ⟨ea, x5⟩ => ?_
    subst ea
    have B4 := Box.kx x4 B1
    have B5 := Box.kx x5 B4
    refine .condND (fun hs => PO.ldF B4 (.chkV rfl (PO.letTick x5.wf fun g2 x2 z2 w2 => .retL ⟨rfl, (((x0.trans x1).trans x4).trans x5).trans x2, Box.kx x2 B5, ?_⟩))) (fun hs => ?_)
    · simp only [true_iff]; exact fun hh => hs hh.2.1
    refine .ldI B5 rfl (.ldI B5 rfl (.ldI B5 rfl (.ldI B5 rfl ?_)))
    have hz45 := (x4.trans x5).size
    refine PO.addNew x5.wf (by decide) (EX.nn (x4.trans x5) (by omega) (n1 24 (by omega))) (by omega) (by rw [x5.nro, x4.nro, x1.nro]; omega) fun g7 N7 B7 => .addNil ?_
    have C7 := NW.kb N7 B5
    have y7 : EX h g7 := N7.ex0 ((((x0.trans x1).trans x4).trans x5)) (by have := x0.size; omega)
    have ri : RdI .i64 g7 ⟨some ⟨g0.size + 24, 0, some 0⟩, 4, 4⟩ [x.2.1, x.2.2.1, x.2.2.2.1, x.2.2.2.2.1] := B7.rd N7.wf rfl (capOk_self _ _ (by unfold B63; omega))
    refine PO.call (frmay_f ri (by simp)) fun a g8 ⟨ea, x8⟩ => ?_
    subst ea x8
    have hmay : (∀ n ∈ [x.2.1, x.2.2.1, x.2.2.2.1, x.2.2.2.2.1], okN n) ↔ (okN v.id /\ okN v.off /\ okN v.a /\ okN v.b) := by rw [e2, e3, e4, e5]; simp
    refine .condND (fun hs2 => .addOff (by decide) (.addNil (PO.ldF B4 (.chkV rfl (.addOld B7.ne (.addNil (PO.letTick N7.wf fun g2 x2 z2 w2 => .retL ⟨rfl, y7.trans x2, Box.kx x2 C7, ?_⟩))))))) (fun hs2 => ?_)
    · simp only [true_iff]; exact fun hh => hs2 (hmay.2 hh.2.2.1)
    refine .addOld B7.ne (.addNil (.ldL C7 rfl (.addOld B7.ne (.addNil (.addOff (by decide) (.addNil (PO.ldF B4 (.chkV rfl (.addOld B7.ne (.addNil (PO.letTick N7.wf fun g2 x2 z2 w2 => .retL ⟨rfl, y7.trans x2, Box.kx x2 C7, ?_⟩)))))))))))
    rw [decide_eq_true_eq]
    constructor
    · intro hh hf; have := hf.2.2.2; omega
    · intro hh; exact Decidable.byContradiction fun h3 => hh ⟨hk, hs, hmay.1 hs2, by omega⟩
  rintro ⟨⟨p, bad⟩, g1⟩ ⟨ep, x1, B1, hb⟩
  have ep' : p = some ⟨h.size, 0, some 0⟩ := ep
  subst ep'
  have B1' : Box g1 h.size (f9L x) := B1
  have x1' : EX h g1 := x1
  have hb' : bad = true ↔ ¬ FR0 v := hb
  refine .cond (fun c => .ret ⟨(decide_eq_false (fun hh => hb'.1 c hh.1)).symm, x1'⟩) (fun c => ?_)
  have h0 : FR0 v := Decidable.byContradiction fun hh => by rw [hb'.2 hh] at c; simp at c
  have key : ∀ (P : Prop) [Decidable P] (g : H), EX h g -> (FR1 v ↔ P) -> PO (some (decide P, g)) (fun (a, h1) => a = decide (FR v) /\ EX h h1) := fun P _ g y hp => .ret ⟨decide_eq_decide.2 ⟨fun q => ⟨h0, hp.2 q⟩, fun q => hp.1 q.2⟩, y⟩
  have hlx := h0.2.2.2
  refine .ptr (.ldI B1' rfl (.condE (fun k2 => ?_) (fun k2 => ?_)))
  · have k2' : v.kind = 2 := e1.symm.trans k2
    refine .ptr (.ldL B1' rfl (PO.call (rightSpans_f x1'.wf ((hx.ex x1').spans) h2) fun a g2 ⟨ea, x2⟩ => ?_))
    subst ea
    exact key _ _ (x1'.trans x2) (by unfold FR1; rw [if_pos k2'])
  have k2' : ¬ v.kind = 2 := fun hh => k2 (e1.trans hh)
  refine .condE (fun k3 => ?_) (fun k3 => ?_)
  · have k3' : v.kind = 3 := e1.symm.trans k3
    refine .ptr (.ldI B1' rfl (.ptr (.ldL B1' rfl (.letO ?_))))
    refine key _ _ x1' ?_
    unfold FR1
    rw [if_neg k2', if_pos k3', w64 (by omega) (by omega), hdl]
    show _ ↔ x.2.2.1 <= _
    rw [e3]
  have k3' : ¬ v.kind = 3 := fun hh => k3 (e1.trans hh)
  refine .condE (fun k4 => ?_) (fun k4 => ?_)
  · have k4' : v.kind = 4 := e1.symm.trans k4
    refine .ptr (.ldI B1' rfl (.ptr (.ldI B1' rfl ?_)))
    refine key _ _ x1' ?_
    unfold FR1
    rw [if_neg k2', if_neg k3', if_pos k4']
    show _ ↔ x.2.2.2.2.1 <= x.2.2.1
    rw [e3, e5]
  have k4' : ¬ v.kind = 4 := fun hh => k4 (e1.trans hh)
  refine .condE (fun k9 => ?_) (fun k9 => ?_)
  · have k9' : v.kind = 9 := e1.symm.trans k9
    refine .ptr (.ldL B1' rfl ?_)
    refine key _ _ x1' ?_
    unfold FR1
    rw [if_neg k2', if_neg k3', if_neg k4', if_pos k9', hdl]
    omega
  have k9' : ¬ v.kind = 9 := fun hh => k9 (e1.trans hh)
  refine .ret ⟨(decide_eq_true ⟨h0, ?_⟩).symm, x1'⟩
  unfold FR1
  rw [if_neg k2', if_neg k3', if_neg k4', if_neg k9']
  trivial
end Go.Proofs.Ythiccnmplgdheaa.T
