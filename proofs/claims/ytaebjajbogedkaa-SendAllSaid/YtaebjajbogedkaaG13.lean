/- Lemmas about the typed texts (joined: SHead4 LHead1 SFrame2). -/
import Derived.Test.YtaebjajbogedkaaG12
import Derived.Test.YtaebjajbogedkaaG10
/- Chapter 18's functions over the typed texts: short heads, texts, the chapter's example; what is laid is read. -/
set_option linter.unusedVariables false
set_option linter.unusedSimpArgs false
namespace Go.Proofs.Ytaebjajbogedkaa.T
open Go Go.Abs Go.Proofs
theorem PO.app1 {α : Type} {Q : α → Prop} {h0 h : H} {out : Sl} {l : List UInt8} {bv : UInt8} {g : Sl → H → Option α} {x : Int} (hxv : x = (bv.toNat : Int)) (hb : BufB h out l) (hx : EX h0 h) (hf : Fr h0.size out) (hl : l.length + 1 ≤ 2 ^ 47)
    (k : ∀ out1 h2, BufB h2 out1 (l ++ [bv]) → EX h0 h2 → Fr h0.size out1 → PO (g out1 h2) Q) : PO (newO (row 5 [.int .u8 x]) h fun b h1 => bind2 (appT 5 1 1 h1 out ⟨some ⟨b, 0, some 0⟩, 1, 1⟩) g) Q := by
  subst hxv
  obtain ⟨out1, h2, e, b, x, f⟩ := app_one bv hb hx hf hl
  rw [newO_eq]
  exact PO.callE e (k out1 h2 b x f)
/-! short heads -/
def snums (x : Hd) : List Int := [x.1, x.2.1, x.2.2.2.2]
def shortV (x : Hd) : List UInt8 := if HR x then encs (snums x) else []
theorem HR.ok3 {x : Hd} (h : HR x) : ∀ n ∈ snums x, okN n := by
  unfold HR hcnt at h; unfold snums okN; simp only [List.mem_cons, List.not_mem_nil, or_false, forall_eq_or_imp, forall_eq]; omega
def rsV (l : List UInt8) : Hd × Int × Int := match tks 3 l with
  | some (ns, rest) => if ofV (ns.getD 0 0) (ns.getD 1 0) (ns.getD 2 0) = hd0 then (hd0, 0, 2) else (ofV (ns.getD 0 0) (ns.getD 1 0) (ns.getD 2 0), (l.length : Int) - rest.length, 0)
  | none => (hd0, 0, 3)
theorem tks_rest : ∀ (n : Nat) (l : List UInt8) (ns : List Int) (r : List UInt8), tks n l = some (ns, r) → r.length ≤ l.length
  | 0, l, ns, r, h => by simp [tks] at h; rw [h.2]; omega
  | n + 1, l, ns, r, h => by
    unfold tks at h
    split at h
    · simp only [Option.map_eq_some_iff] at h
      obtain ⟨⟨p1, p2⟩, h1, h2⟩ := h
      simp only [Prod.mk.injEq] at h2
      have := tks_rest n _ p1 p2 h1
      have := tk_rest l
      rw [← h2.2]; omega
    · simp at h
/-! texts -/
def txB (l : List UInt8) (i : Nat) : UInt8 := UInt8.ofNat (i * 7) + (if l.length = 0 then 0 else l.getD (i % l.length) 0)
def textL (l : List UInt8) (n : Nat) : List UInt8 := (List.range n).map (txB l)
theorem textL_length (l : List UInt8) (n : Nat) : (textL l n).length = n := by simp [textL]
theorem textL_succ (l : List UInt8) (n : Nat) : textL l (n + 1) = textL l n ++ [txB l n] := by simp [textL, List.range_succ]
/-! what is laid is read -/
theorem readV_layV {x : Hd} {l : List UInt8} (h : HR x ∧ (l.length : Int) = hto x - hfrom x) : readV (layV x l) = (x, l, 0) := by
  unfold layV readV
  rw [if_pos h]
  have := tks_encs (hnums x) l h.1.ok
  have h5 : (hnums x).length = 5 := rfl
  rw [h5] at this
  rw [this]
  have hd : hdOf (hnums x) = x := rfl
  simp only [hd]
  rw [if_pos h]
theorem layV_length {x : Hd} {l : List UInt8} (h : HR x ∧ (l.length : Int) = hto x - hfrom x) : l.length < (layV x l).length ∧ (layV x l).length ≤ l.length + 40 := by
  unfold layV
  rw [if_pos h]
  have := encs_length (hnums x)
  have h5 : (hnums x).length = 5 := rfl
  have h1 : 0 < (encs (hnums x)).length := by
    unfold hnums encs
    rw [List.length_append, enc_length]
    have := sz_pos x.1
    omega
  simp; omega
end Go.Proofs.Ytaebjajbogedkaa.T
/- Chapter 18's example and the law HeadSpread over the typed texts. -/
set_option linter.unusedVariables false
set_option linter.unusedSimpArgs false
namespace Go.Proofs.Ytaebjajbogedkaa.T
open Go Go.Abs Go.Proofs
theorem capOk_self (sz n : Nat) (h : n < B63) : CapOK sz n n := by unfold CapOK; rw [capK_exact h]; exact Nat.le_refl _
theorem Box.rdS {h : H} {b n : Nat} {xs : List Sl} (B : Box h b (xs.map encSl)) (w : WF h) (hn : xs.length = n) (hb : n < B63) : RdS h ⟨some ⟨b, 0, some 0⟩, n, n⟩ xs := by
  subst hn; exact B.rd w (by simp) (capOk_self _ _ hb)
theorem Box.rdB {h : H} {b n : Nat} {xs : List UInt8} (B : Box h b (vB xs)) (w : WF h) (hn : xs.length = n) (hb : n < B63) : RdB h ⟨some ⟨b, 0, some 0⟩, n, n⟩ xs := by
  subst hn; exact B.rd w (by simp [vB]) (capOk_self _ _ hb)
def X0 : Hd := (3, 9, 2, 0, 81)
theorem PO.law {m : Option (Bool × H)} (p : PO m (fun (a, _) => a = true)) : ∃ h', m = some (true, h') := by
  obtain ⟨⟨a, h'⟩, e, ha⟩ := p
  have ha' : a = true := ha
  subst ha'
  exact ⟨h', e⟩
theorem slB_hi {h : H} {s : Sl} {l : List UInt8} (hr : RdB h s l) {hi : Int} (h1 : 0 ≤ hi) (h2 : hi ≤ l.length) : ∃ s', slT 1 h s none (some hi) none = some s' ∧ RdB h s' (l.take hi.toNat) := by
  obtain ⟨s', e, r, _, _⟩ := sl_hi (hi := hi) (by omega) (by unfold B63; omega) hr h1 (by rw [RdB.len hr]; exact h2)
  refine ⟨s', e, ?_⟩
  unfold vB at r; unfold RdB vB
  rw [Nat.mul_one] at r
  rw [List.map_take]; exact r
theorem slB_lo {h : H} {s : Sl} {l : List UInt8} (hr : RdB h s l) {lo : Int} (h1 : 0 ≤ lo) (h2 : lo ≤ l.length) : ∃ s', slT 1 h s (some lo) none none = some s' ∧ RdB h s' (l.drop lo.toNat) := by
  obtain ⟨s', e, r, _, _⟩ := sl_lo (lo := lo) (by omega) (by unfold B63; omega) hr h1 (by rw [RdB.len hr]; exact h2)
  refine ⟨s', e, ?_⟩
  unfold vB at r; unfold RdB vB
  rw [Nat.mul_one] at r
  rw [List.map_drop]; exact r
theorem ofV_ok {id dl sz : Int} (h : 0 ≤ id ∧ id < 40 ∧ 0 ≤ dl ∧ dl ≤ 4611686018427387903 ∧ 1 ≤ sz ∧ sz ≤ 600) : ofV id dl sz = (id, dl, hcnt sz, 0, sz) ∧ HR (id, dl, hcnt sz, 0, sz) := by
  have : HR (id, dl, hcnt sz, 0, sz) := ⟨h.1, h.2.1, h.2.2.1, h.2.2.2.1, h.2.2.2.2.1, h.2.2.2.2.2, rfl, Int.le_refl 0, by show 0 < hcnt sz; unfold hcnt; omega⟩
  exact ⟨by unfold ofV; rw [if_pos this], this⟩
abbrev RNG (n : Int) : Prop := -9223372036854775808 ≤ n ∧ n ≤ 9223372036854775807
theorem emod_b (a : Int) {m : Int} (h : 0 < m) : 0 ≤ a % m ∧ a % m < m := ⟨Int.emod_nonneg a (by omega), Int.emod_lt_of_pos a h⟩
theorem layV_no {x : Hd} {l : List UInt8} (h : (l.length : Int) ≠ hto x - hfrom x) : layV x l = [] := by unfold layV; rw [if_neg (fun e => h e.2)]
end Go.Proofs.Ytaebjajbogedkaa.T
/- Chapter 5's functions over the typed texts: same, may, right frames. -/
set_option linter.unusedVariables false
set_option linter.unusedSimpArgs false
namespace Go.Proofs.Ytaebjajbogedkaa.T
open Go Go.Abs Go.Proofs
structure FV where
  kind : Int
  id : Int
  off : Int
  a : Int
  b : Int
  note : Int
  fin : Bool
  data : List UInt8
  spans : List Run
structure FRd (h : H) (x : F9) (v : FV) : Prop where
  e : x.1 = v.kind ∧ x.2.1 = v.id ∧ x.2.2.1 = v.off ∧ x.2.2.2.1 = v.a ∧ x.2.2.2.2.1 = v.b ∧ x.2.2.2.2.2.1 = v.note ∧ x.2.2.2.2.2.2.1 = v.fin
  data : RdB h x.2.2.2.2.2.2.2.1 v.data
  spans : RdR h x.2.2.2.2.2.2.2.2 v.spans
theorem FRd.ex {h h' : H} {x : F9} {v : FV} (y : EX h h') (r : FRd h x v) : FRd h' x v := ⟨r.e, r.data.ex y, r.spans.ex y⟩
def sameV (v w : FV) : Prop := v.kind = w.kind ∧ v.id = w.id ∧ v.off = w.off ∧ v.a = w.a ∧ v.b = w.b ∧ v.fin = w.fin ∧ v.data = w.data ∧ v.spans = w.spans
instance (v w : FV) : Decidable (sameV v w) := by unfold sameV; infer_instance
theorem eqR_f {h : H} {a b : Sl} {la lb : List Run} (w : WF h) (ha : RdR h a la) (hb : RdR h b lb) (hn : la.length ≤ 2 ^ 40) : PO (slices_Equal_2_int_2_int a b h) (fun (c, h1) => c = decide (la = lb) ∧ h1 = h) := by
  unfold slices_Equal_2_int_2_int
  have l1 := RdR.len ha
  have l2 := RdR.len hb
  refine .condNE (fun hne => .ret ⟨?_, rfl⟩) (fun he => ?_)
  · exact (decide_eq_false (fun e => hne (by rw [l1, l2, e]))).symm
  have hll : la.length = lb.length := by omega
  refine PO.loop (fun m st => ∃ i : Nat, st = ((a, (b, (((a.len : Nat) : Int), (i : Int)))), h) ∧ m + i = la.length ∧ la.take i = lb.take i) ?_ la.length _ ⟨0, rfl, rfl, rfl⟩
  rintro m st ⟨i, rfl, hm, ht⟩
  unfold slices_Equal_2_int_2_int_l1
  refine .condD (fun c => ?_) (fun c => ?_)
  · refine .ixR ha (by omega) (by omega) fun p _ _ _ e1 _ _ => .op e1 (.ixR hb (by omega) (by omega) fun q _ _ _ e2 _ _ => .op e2 ?_)
    simp only [Int.toNat_natCast]
    have ga : la[i]? = some (la.getD i (0, 0)) := by rw [List.getD_eq_getElem?_getD, List.getElem?_eq_getElem (by omega)]; rfl
    have gb : lb[i]? = some (lb.getD i (0, 0)) := by rw [List.getD_eq_getElem?_getD, List.getElem?_eq_getElem (by omega)]; rfl
    refine .condN (fun hf => ?_) (fun hf => ?_)
    · refine .retR ⟨?_, rfl⟩
      refine (decide_eq_false (fun e => ?_)).symm
      subst e
      exact absurd hf (by show ¬ ((la.getD i (0, 0)).1 == (la.getD i (0, 0)).1 && ((la.getD i (0, 0)).2 == (la.getD i (0, 0)).2 && true)) = false; simp)
    · refine .retL ⟨m - 1, by omega, i + 1, ?_, by omega, ?_⟩
      · rw [w64 (by omega) (by omega)]; rfl
      · have : la.getD i (0, 0) = lb.getD i (0, 0) := by
          simp only [Bool.and_true, Bool.and_eq_true, beq_iff_eq] at hf
          exact Prod.ext hf.1 hf.2
        rw [List.take_add_one, List.take_add_one, ht, ga, gb, this]
  · have : i = la.length := by omega
    subst this
    refine .retR ⟨(decide_eq_true ?_).symm, rfl⟩
    rw [List.take_of_length_le (Nat.le_refl _), List.take_of_length_le (by omega)] at ht
    exact ht
theorem same_f {h : H} (w : WF h) {x y : F9} {v u : FV} (hx : FRd h x v) (hy : FRd h y u) (h1 : v.data.length ≤ 2 ^ 47) (h2 : v.spans.length ≤ 2 ^ 40) : PO (frame_same x y h) (fun (a, h1) => a = decide (sameV v u) ∧ EX h h1) := by
  unfold frame_same P.frame_same
  refine PO.newB w fun g1 x1 B1 z1 w1 => PO.newB w1 fun g2 x2 B2 z2 w2 => ?_
  have C1 := Box.kx x2 B1
  have xx := x1.trans x2
  obtain ⟨a1, a2, a3, a4, a5, a6, a7⟩ := hx.e
  obtain ⟨b1, b2, b3, b4, b5, b6, b7⟩ := hy.e
  have no : ∀ {g : H}, EX h g → ¬ sameV v u → PO (some (false, g)) (fun (a, h1) => a = decide (sameV v u) ∧ EX h h1) := fun y hn => .ret ⟨(decide_eq_false hn).symm, y⟩
  refine .ldI C1 rfl (.ldI B2 rfl (.condE (fun e1 => ?_) (fun e1 => no xx fun s => e1 ((a1.trans s.1).trans b1.symm))))
  refine .ldI C1 rfl (.ldI B2 rfl (.condE (fun e2 => ?_) (fun e2 => no xx fun s => e2 ((a2.trans s.2.1).trans b2.symm))))
  refine .ldI C1 rfl (.ldI B2 rfl (.condE (fun e3 => ?_) (fun e3 => no xx fun s => e3 ((a3.trans s.2.2.1).trans b3.symm))))
  refine .ldI C1 rfl (.ldI B2 rfl (.condE (fun e4 => ?_) (fun e4 => no xx fun s => e4 ((a4.trans s.2.2.2.1).trans b4.symm))))
  refine .ldI C1 rfl (.ldI B2 rfl (.condE (fun e5 => ?_) (fun e5 => no xx fun s => e5 ((a5.trans s.2.2.2.2.1).trans b5.symm))))
  refine .ldB C1 rfl (.ldB B2 rfl (.condE (fun e6 => ?_) (fun e6 => no xx fun s => e6 ((a7.trans s.2.2.2.2.2.1).trans b7.symm))))
  refine .ldL C1 rfl (.ldL B2 rfl ?_)
  refine .callE (Equal_f (hx.data.ex xx) (hy.data.ex xx) h1) (.condD (fun e7 => ?_) (fun e7 => no xx fun s => e7 s.2.2.2.2.2.2.1))
  refine .ldL C1 rfl (.ldL B2 rfl (PO.call (eqR_f w2 (hx.spans.ex xx) (hy.spans.ex xx) h2) fun a g3 ⟨e8, x3⟩ => ?_))
  subst e8 x3
  refine .ret ⟨decide_eq_decide.2 ?_, xx⟩
  exact ⟨fun e8 => ⟨(a1.symm.trans e1).trans b1, (a2.symm.trans e2).trans b2, (a3.symm.trans e3).trans b3, (a4.symm.trans e4).trans b4, (a5.symm.trans e5).trans b5, (a7.symm.trans e6).trans b7, e7, e8⟩, fun s => s.2.2.2.2.2.2.2⟩
/-! may -/
theorem may1_f (n : Int) (h : H) : frame_may_1 n h = some (!decide (okN n), h) := by
  unfold frame_may_1
  simp only [condK_eq, decide_eq_true_eq]
  split
  · rw [decide_eq_false (show ¬ okN n by unfold okN; omega)]; rfl
  · by_cases hh : n > 4611686018427387903
    · rw [decide_eq_true hh, decide_eq_false (show ¬ okN n by unfold okN; omega)]; rfl
    · rw [decide_eq_false hh, decide_eq_true (show okN n by unfold okN; omega)]; rfl
theorem frmay_f {h : H} {s : Sl} {zs : List Int} (hr : RdI .i64 h s zs) (hl : zs.length ≤ 2 ^ 40) : PO (frame_may s h) (fun (a, h1) => a = decide (∀ n ∈ zs, okN n) ∧ h1 = h) := by
  unfold frame_may P.frame_may slices_ContainsFunc_int_frame_may_1 P.slices_ContainsFunc_int_frame_may_1 slices_IndexFunc_int_frame_may_1 P.slices_IndexFunc_int_frame_may_1
  have hlen := hr.len
  refine PO.call (P := fun (a, h1) => a = decide (¬ ∀ n ∈ zs, okN n) ∧ h1 = h) (PO.call (P := fun (a, h1) => (0 ≤ a ↔ ¬ ∀ n ∈ zs, okN n) ∧ h1 = h) ?_ fun a h1 ⟨e, x⟩ => .ret ⟨decide_eq_decide.2 e, x⟩) fun a h1 ⟨e, x⟩ => .ret ⟨?_, x⟩
  · refine PO.loop (fun m st => ∃ i : Nat, st = ((s, ((), (((s.len : Nat) : Int), (i : Int)))), h) ∧ m + i = zs.length ∧ ∀ n ∈ zs.take i, okN n) ?_ zs.length _ ⟨0, rfl, rfl, by simp⟩
    rintro m st ⟨i, rfl, hm, ht⟩
    unfold P.slices_IndexFunc_int_frame_may_1_l1
    refine .condD (fun c => ?_) (fun c => ?_)
    · refine .ixI hr (by omega) (by omega) fun a e => .op e (.callE (may1_f _ _) ?_)
      simp only [Int.toNat_natCast]
      have ga : zs[i]? = some (zs.getD i 0) := by rw [List.getD_eq_getElem?_getD, List.getElem?_eq_getElem (by omega)]; rfl
      refine .condND (fun hn => .retR ⟨⟨fun _ hall => hn (hall _ (List.mem_of_getElem? ga)), fun _ => by omega⟩, rfl⟩) (fun hp => .retL ⟨m - 1, by omega, i + 1, ?_, by omega, ?_⟩)
      · rw [w64 (by omega) (by omega)]; rfl
      · rw [List.take_add_one, ga]
        intro n hn
        rcases List.mem_append.1 hn with hn | hn
        · exact ht n hn
        · simp at hn; subst hn; exact hp
    · have : i = zs.length := by omega
      subst this
      rw [List.take_of_length_le (Nat.le_refl _)] at ht
      exact .retR ⟨⟨fun hh => by omega, fun hh => absurd ht hh⟩, rfl⟩
  · have e' : a = decide (¬ ∀ n ∈ zs, okN n) := e
    subst e'
    by_cases hh : ∀ n ∈ zs, okN n
    · rw [decide_eq_true hh, decide_eq_false (fun h => h hh)]; rfl
    · rw [decide_eq_false hh, decide_eq_true hh]; rfl
/-! an Ack's spans -/
def RSp : Option Int → List Run → Prop
  | _, [] => True
  | p, r :: l => (okN r.1 ∧ okN r.2) ∧ r.1 ≤ r.2 ∧ (∀ q, p = some q → 2 ≤ q - r.2) ∧ RSp (some r.1) l
def decRSp : (p : Option Int) → (l : List Run) → Decidable (RSp p l)
  | _, [] => .isTrue trivial
  | p, r :: l => by
    unfold RSp okN
    have := decRSp (some r.1) l
    cases p with
    | none => exact decidable_of_iff (((0 ≤ r.1 ∧ r.1 ≤ 4611686018427387903) ∧ 0 ≤ r.2 ∧ r.2 ≤ 4611686018427387903) ∧ r.1 ≤ r.2 ∧ RSp (some r.1) l) (by simp)
    | some q => exact decidable_of_iff (((0 ≤ r.1 ∧ r.1 ≤ 4611686018427387903) ∧ 0 ≤ r.2 ∧ r.2 ≤ 4611686018427387903) ∧ r.1 ≤ r.2 ∧ 2 ≤ q - r.2 ∧ RSp (some r.1) l) (by simp)
instance (p : Option Int) (l : List Run) : Decidable (RSp p l) := decRSp p l
def RSs (l : List Run) : Prop := RSp none l ∧ 1 ≤ l.length ∧ l.length ≤ 8
instance (l : List Run) : Decidable (RSs l) := by unfold RSs; infer_instance
def prevOf (l : List Run) (i : Nat) : Option Int := if i = 0 then none else some (l.getD (i - 1) (0, 0)).1
theorem rightSpans_f {h : H} (w : WF h) {s : Sl} {l : List Run} (hr : RdR h s l) (hl : l.length ≤ 2 ^ 40) : PO (frame_rightSpans s h) (fun (a, h1) => a = decide (RSs l) ∧ EX h h1) := by
  unfold frame_rightSpans
  have hlen := RdR.len hr
  have main : PO (loopO frame_rightSpans_l1 ((s, (s, (((s.len : Nat) : Int), 0))), h)) (fun r => (∃ h', r = Sum.inl (s, h') ∧ EX h h' ∧ RSp none l) ∨ (∃ h', r = Sum.inr (false, h') ∧ EX h h' ∧ ¬ RSp none l)) := by
    refine PO.loop (fun m st => ∃ (i : Nat) (h' : H), st = ((s, (s, (((s.len : Nat) : Int), (i : Int)))), h') ∧ m + i = l.length ∧ EX h h' ∧ (RSp (prevOf l i) (l.drop i) ↔ RSp none l) ∧ (∀ q, prevOf l i = some q → okN q)) ?_ l.length _ ⟨0, h, rfl, rfl, EX.refl w, by simp [prevOf], by simp [prevOf]⟩
    rintro m st ⟨i, h1, rfl, hm, hx, hiff, hq⟩
    unfold frame_rightSpans_l1 P.frame_rightSpans_l1
    refine .condD (fun c => ?_) (fun c => ?_)
    · have hd : l.drop i = l.getD i (0, 0) :: l.drop (i + 1) := by
        rw [List.drop_eq_getElem_cons (by omega)]; simp [List.getD, show i < l.length by omega]
      have hpn : prevOf l (i + 1) = some (l.getD i (0, 0)).1 := by unfold prevOf; rw [if_neg (by omega)]; rfl
      have rsc : ∀ (p : Option Int) (r : Run) (q : List Run), RSp p (r :: q) ↔ (okN r.1 ∧ okN r.2) ∧ r.1 ≤ r.2 ∧ (∀ u, p = some u → 2 ≤ u - r.2) ∧ RSp (some r.1) q := fun _ _ _ => Iff.rfl
      rw [hd, rsc] at hiff
      have hr1 := hr.ex hx
      have hwi : 0 < i → IntKind.wrap .i64 ((i : Int) - 1) = ((i - 1 : Nat) : Int) := fun hp => by rw [w64 (by omega) (by omega)]; omega
      refine .ixR hr1 (by omega) (by omega) fun a _ _ _ e1 _ _ => .op e1 ?_
      simp only [Int.toNat_natCast]
      generalize hR : l.getD i (0, 0) = r at *
      refine PO.newB hx.wf fun h2 x2 B2 z2 w2 => PO.stZ B2 w2 rfl rfl fun h3 B3 u3 z3 w3 => ?_
      have B3' : Box h3 h1.size [.int .i64 r.1, .int .i64 r.2] := B3
      have y3 : EX h1 h3 := u3.ex0 x2 (fun A hA e => by omega)
      have hn3 := w3.nro
      refine PO.join (fun st => ∃ (bad : Bool) (h4 : H), st = ((s, (s, (((s.len : Nat) : Int), ((i : Int), bad)))), h4) ∧ EX h1 h4 ∧ (bad = true ↔ ¬ ((okN r.1 ∧ okN r.2) ∧ r.1 ≤ r.2 ∧ ∀ u, prevOf l i = some u → 2 ≤ u - r.2))) ?_ ?_
      · refine PO.letGrow w3 fun h4 x4 z4 w4 n4 => ?_
        have B4 := Box.kx x4 B3'
        refine .ixA (by omega) (by omega) (.ldI B4 rfl (.ixA (by omega) (by omega) (.ldI B4 rfl ?_)))
        refine PO.addNew w4 (by decide) (n4 4 (by omega)) (by omega) (by rw [x4.nro]; omega) fun h5 N5 B5 => .addNil ?_
        have C5 := NW.kb N5 B4
        have y5 : EX h1 h5 := N5.ex0 (y3.trans x4) (by omega)
        have ri : RdI .i64 h5 ⟨some ⟨h3.size + 4, 0, some 0⟩, 2, 2⟩ [r.1, r.2] := B5.rd N5.wf rfl (capOk_self _ _ (by unfold B63; omega))
        refine PO.call (frmay_f ri (by simp)) fun a h6 ⟨e6, x6⟩ => ?_
        subst e6 x6
        have hmay : (∀ n ∈ [r.1, r.2], okN n) ↔ okN r.1 ∧ okN r.2 := by simp
        refine .condND (fun hb => .addOld B5.ne (.addNil (PO.letTick N5.wf fun h7 x7 z7 w7 => .retL ⟨true, h7, rfl, y5.trans x7, ?_⟩))) (fun hb => ?_)
        · simp only [true_iff]; exact fun hh => hb (hmay.2 hh.1)
        have hb' := hmay.1 hb
        refine .ixA (by omega) (by omega) (.addOld B5.ne (.addNil (.ldI C5 rfl (.ixA (by omega) (by omega) (.addOld B5.ne (.addNil (.ldI C5 rfl ?_)))))))
        refine .condD (fun hc => .addOld B5.ne (.addNil (PO.letTick N5.wf fun h7 x7 z7 w7 => .retL ⟨true, h7, rfl, y5.trans x7, ?_⟩))) (fun hc => ?_)
        · have hc' : r.1 > r.2 := hc
          simp only [true_iff]; exact fun hh => by omega
        have hc' : ¬ r.1 > r.2 := hc
        refine .condD (fun h0 => ?_) (fun h0 => .addOld B5.ne (.addNil (PO.letTick N5.wf fun h7 x7 z7 w7 => .retL ⟨false, h7, rfl, y5.trans x7, ?_⟩)))
        · have hip : 0 < i := by have h0' : (i : Int) > 0 := h0; omega
          rw [hwi hip]
          refine .ixR (hr1.ex y5) (by omega) (by omega) fun a _ _ ha _ ea _ => .ixA (by omega) (by omega) ?_
          simp only [Int.toNat_natCast] at ea
          have hpv : prevOf l i = some (l.getD (i - 1) (0, 0)).1 := by unfold prevOf; rw [if_neg (by omega)]
          have hq' := hq _ hpv
          refine .addOld B5.ne (.addNil (.op ea (.ixA (by omega) (by omega) (.addOld B5.ne (.addNil (.ldI C5 rfl ?_))))))
          refine .addOld B5.ne (.addNil (PO.letTick N5.wf fun h7 x7 z7 w7 => .retL ⟨_, h7, rfl, y5.trans x7, ?_⟩))
          unfold okN at hq' hb'
          rw [w64 (n := (l.getD (i - 1) (0, 0)).1 - r.2) (by omega) (by omega), decide_eq_true_eq]
          constructor
          · intro hh hall
            have := hall.2.2 _ hpv
            omega
          · intro hh
            refine Decidable.byContradiction fun h2 => hh ⟨hb', by omega, fun u hu => ?_⟩
            rw [hpv] at hu; cases hu; omega
        · have : i = 0 := by have h0' : ¬ (i : Int) > 0 := h0; omega
          subst this
          simp only [Bool.false_eq_true, false_iff, Decidable.not_not]
          exact ⟨hb', by omega, fun u hu => by simp [prevOf] at hu⟩
      · rintro _ ⟨bad, h4, rfl, x4, hbad⟩
        refine .cond (fun hb => .retR (.inr ⟨h4, rfl, hx.trans x4, ?_⟩)) (fun hb => .retL ⟨m - 1, by omega, i + 1, h4, ?_, by omega, hx.trans x4, ?_, ?_⟩)
        · exact fun hall => (hbad.1 hb) (by have := hiff.2 hall; exact ⟨this.1, this.2.1, this.2.2.1⟩)
        · show ((s, (s, (((s.len : Nat) : Int), IntKind.wrap .i64 ((i : Int) + 1)))), h4) = _
          rw [w64 (n := (i : Int) + 1) (by omega) (by omega)]; rfl
        · have hg : (okN r.1 ∧ okN r.2) ∧ r.1 ≤ r.2 ∧ ∀ u, prevOf l i = some u → 2 ≤ u - r.2 := Decidable.byContradiction fun hh => by rw [hbad.2 hh] at hb; simp at hb
          rw [hpn, ← hiff]
          exact ⟨fun hh => ⟨hg.1, hg.2.1, hg.2.2, hh⟩, fun hh => hh.2.2.2⟩
        · intro q hq2
          have hg : (okN r.1 ∧ okN r.2) ∧ r.1 ≤ r.2 ∧ ∀ u, prevOf l i = some u → 2 ≤ u - r.2 := Decidable.byContradiction fun hh => by rw [hbad.2 hh] at hb; simp at hb
          rw [hpn] at hq2; cases hq2; exact hg.1.1
    · have : i = l.length := by omega
      subst this
      rw [List.drop_length] at hiff
      exact .retR (.inl ⟨h1, rfl, hx, hiff.1 trivial⟩)
  refine PO.joinD (PO.mono main ?_)
  rintro r (⟨h', rfl, hx, hp⟩ | ⟨h', rfl, hx, hp⟩)
  · show PO _ _
    refine .condD (fun c => .ret ⟨decide_eq_decide.2 ?_, hx⟩) (fun c => .ret ⟨(decide_eq_false ?_).symm, hx⟩)
    · unfold RSs; constructor
      · intro hh; exact ⟨hp, by omega, by omega⟩
      · intro hh; have := hh.2.2; omega
    · unfold RSs; intro hh; have := hh.2.1; omega
  · refine ⟨(decide_eq_false ?_).symm, hx⟩
    unfold RSs; exact fun hh => hp hh.1
end Go.Proofs.Ytaebjajbogedkaa.T
