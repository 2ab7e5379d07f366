/- Lemmas about the typed texts (joined: LHead1 SFrame2 SFrame3). -/
import Derived.Test.YthiccnmplgdheaaG13
import Derived.Test.YthiccnmplgdheaaG10
/- Chapter 18's example and the law HeadSpread over the typed texts. -/
set_option linter.unusedVariables false
set_option linter.unusedSimpArgs false
namespace Go.Proofs.Ythiccnmplgdheaa.T
open Go Go.Abs Go.Proofs
theorem capOk_self (sz n : Nat) (h : n < B63) : CapOK sz n n := by unfold CapOK; rw [capK_exact h]; exact Nat.le_refl _
theorem Box.rdS {h : H} {b n : Nat} {xs : List Sl} (B : Box h b (xs.map encSl)) (w : WF h) (hn : xs.length = n) (hb : n < B63) : RdS h ⟨some ⟨b, 0, some 0⟩, n, n⟩ xs := by
  subst hn; exact B.rd w (by simp) (capOk_self _ _ hb)
theorem Box.rdB {h : H} {b n : Nat} {xs : List UInt8} (B : Box h b (vB xs)) (w : WF h) (hn : xs.length = n) (hb : n < B63) : RdB h ⟨some ⟨b, 0, some 0⟩, n, n⟩ xs := by
  subst hn; exact B.rd w (by simp [vB]) (capOk_self _ _ hb)
def X0 : Hd := (3, 9, 2, 0, 81)
theorem known18_f {h : H} (w : WF h) : PO (law18_known h) (fun (a, h1) => a = true ∧ EX h h1) := by
  unfold law18_known P.law18_known
  refine PO.call (Of_f w 3 9 81) fun a h0 ⟨e, x0⟩ => ?_
  have e' : a = X0 := by rw [show a = ofV 3 9 81 from e]; decide
  subst e'
  refine PO.newB x0.wf fun h1 x1 B1 z1 w1 => PO.stZ B1 w1 rfl rfl fun h2 B2 u2 z2 w2 => ?_
  have B2' : Box h2 h0.size (hdL X0) := B2
  have xx2 : EX h h2 := u2.ex0 (x0.trans x1) (fun A hA e => by have := x0.size; omega)
  have hn2 := w2.nro
  refine PO.letGrow w2 fun h3 x3 z3 w3 n3 => .ldZ5 (Box.kx x3 B2') ?_
  refine PO.addNew (vs := vB (List.replicate 80 0)) w3 (by decide) (n3 1 (by omega)) (by omega) (by rw [x3.nro]; omega) fun h4 N4 B4 => ?_
  have z4 := N4.size
  refine PO.addNew (vs := [(⟨some ⟨h2.size + 1, 0, some 0⟩, 80, 80⟩ : Sl)].map encSl) N4.wf (by decide) (N4.nn (by omega) (by omega) (n3 2 (by omega))) (by omega) (by rw [N4.up.nro, x3.nro]; omega) fun h5 N5 B5 => .addNil ?_
  have B4' := NW.kb N5 B4
  have rp := Box.rdB (n := 80) B4' N5.wf (by simp) (by unfold B63; omega)
  refine PO.call (Lay_f N5.wf X0 (Box.rdS (n := 1) B5 N5.wf rfl (by unfold B63; omega)) (ls := [List.replicate 80 0]) ⟨⟨rp, by simp⟩, trivial⟩ (by simp) (by simp [cat])) fun s6 h6 ⟨r6, x6⟩ => ?_
  have B4'' := Box.kx x6 B4'
  have B5' := Box.kx x6 B5
  refine .addOld B4''.ne (.addOld B5'.ne (.addNil (PO.letTick x6.wf fun h8 x8 z8 w8 => ?_)))
  have hc : cat [List.replicate 80 (0 : UInt8)] = List.replicate 80 0 := by simp [cat]
  have r6' : RdB h6 s6 (layV X0 (List.replicate 80 0)) := by rw [← hc]; exact r6
  have hX : HR X0 ∧ ((List.replicate 80 (0 : UInt8)).length : Int) = hto X0 - hfrom X0 := by decide
  have hlen : (layV X0 (List.replicate 80 0)).length = 86 := by decide +kernel
  refine PO.call (Read_f w8 (r6'.ex x8) (by omega)) fun a h9 ⟨e1, e2, r9, x9⟩ => ?_
  rw [readV_layV hX] at e1 e2 r9
  obtain ⟨a1, a2, a3⟩ := a
  simp only at e1 e2 r9 x9
  subst e1 e2
  have xx5 : EX h h5 := N5.ex0 (N4.ex0 (xx2.trans x3) (by have := xx2.size; omega)) (by have := xx2.size; omega)
  have C9 : Box h9 h0.size (hdL X0) := Box.kx x9 (Box.kx x8 (Box.kx x6 (NW.kb N5 (NW.kb N4 (Box.kx x3 B2')))))
  refine PO.newB x9.wf fun h10 x10 B10 z10 w10 => PO.stZ B10 w10 rfl rfl fun h11 B11 u11 z11 w11 => ?_
  have B11' : Box h11 h9.size (hdL X0) := B11
  have C11 : Box h11 h0.size (hdL X0) := Box.ku u11 (by have := C9.blt; omega) (Box.kx x10 C9)
  have xx11 : EX h h11 := u11.ex0 (((xx5.trans x6).trans x8).trans (x9.trans x10)) (fun A hA e => by have := ((xx5.trans x6).trans (x8.trans x9)).size; omega)
  refine .ldI C11 rfl (.condE (fun _ => .ldI C11 rfl (.condE (fun _ => .condE (fun _ => .condE (fun _ => .ldZ5 B11' (.ldZ5 C11 (.letO (.chk' ?_ ?_)))) (fun h => absurd rfl h)) (fun h => absurd ?_ h)) (fun h => absurd rfl h))) (fun h => absurd rfl h))
  · rfl
  · refine .ret ⟨?_, xx11⟩
    rw [RdB.len r9]; rfl
  · rw [RdB.len r6', hlen]; rfl
theorem PO.law {m : Option (Bool × H)} (p : PO m (fun (a, _) => a = true)) : ∃ h', m = some (true, h') := by
  obtain ⟨⟨a, h'⟩, e, ha⟩ := p
  have ha' : a = true := ha
  subst ha'
  exact ⟨h', e⟩
theorem slB_hi {h : H} {s : Sl} {l : List UInt8} (hr : RdB h s l) {hi : Int} (h1 : 0 ≤ hi) (h2 : hi ≤ l.length) : ∃ s', slT 1 h s none (some hi) none = some s' ∧ RdB h s' (l.take hi.toNat) := by
  obtain ⟨s', e, r, _, _⟩ := sl_hi (hi := hi) (by omega) (by unfold B63; omega) hr h1 (by rw [RdB.len hr]; exact h2)
  refine ⟨s', e, ?_⟩
  unfold vB at r; unfold RdB vB
  rw [Nat.mul_one] at r
  rw [List.map_take]; exact r
theorem slB_lo {h : H} {s : Sl} {l : List UInt8} (hr : RdB h s l) {lo : Int} (h1 : 0 ≤ lo) (h2 : lo ≤ l.length) : ∃ s', slT 1 h s (some lo) none none = some s' ∧ RdB h s' (l.drop lo.toNat) := by
  obtain ⟨s', e, r, _, _⟩ := sl_lo (lo := lo) (by omega) (by unfold B63; omega) hr h1 (by rw [RdB.len hr]; exact h2)
  refine ⟨s', e, ?_⟩
  unfold vB at r; unfold RdB vB
  rw [Nat.mul_one] at r
  rw [List.map_drop]; exact r
theorem ofV_ok {id dl sz : Int} (h : 0 ≤ id ∧ id < 40 ∧ 0 ≤ dl ∧ dl ≤ 4611686018427387903 ∧ 1 ≤ sz ∧ sz ≤ 600) : ofV id dl sz = (id, dl, hcnt sz, 0, sz) ∧ HR (id, dl, hcnt sz, 0, sz) := by
  have : HR (id, dl, hcnt sz, 0, sz) := ⟨h.1, h.2.1, h.2.2.1, h.2.2.2.1, h.2.2.2.2.1, h.2.2.2.2.2, rfl, Int.le_refl 0, by show 0 < hcnt sz; unfold hcnt; omega⟩
  exact ⟨by unfold ofV; rw [if_pos this], this⟩
abbrev RNG (n : Int) : Prop := -9223372036854775808 ≤ n ∧ n ≤ 9223372036854775807
theorem emod_b (a : Int) {m : Int} (h : 0 < m) : 0 ≤ a % m ∧ a % m < m := ⟨Int.emod_nonneg a (by omega), Int.emod_lt_of_pos a h⟩
theorem layV_no {x : Hd} {l : List UInt8} (h : (l.length : Int) ≠ hto x - hfrom x) : layV x l = [] := by unfold layV; rw [if_neg (fun e => h e.2)]
end Go.Proofs.Ythiccnmplgdheaa.T
/- Chapter 5's functions over the typed texts: same, may, right frames. -/
set_option linter.unusedVariables false
set_option linter.unusedSimpArgs false
namespace Go.Proofs.Ythiccnmplgdheaa.T
open Go Go.Abs Go.Proofs
structure FV where
  kind : Int
  id : Int
  off : Int
  a : Int
  b : Int
  note : Int
  fin : Bool
  data : List UInt8
  spans : List Run
structure FRd (h : H) (x : F9) (v : FV) : Prop where
  e : x.1 = v.kind ∧ x.2.1 = v.id ∧ x.2.2.1 = v.off ∧ x.2.2.2.1 = v.a ∧ x.2.2.2.2.1 = v.b ∧ x.2.2.2.2.2.1 = v.note ∧ x.2.2.2.2.2.2.1 = v.fin
  data : RdB h x.2.2.2.2.2.2.2.1 v.data
  spans : RdR h x.2.2.2.2.2.2.2.2 v.spans
theorem FRd.ex {h h' : H} {x : F9} {v : FV} (y : EX h h') (r : FRd h x v) : FRd h' x v := ⟨r.e, r.data.ex y, r.spans.ex y⟩
def sameV (v w : FV) : Prop := v.kind = w.kind ∧ v.id = w.id ∧ v.off = w.off ∧ v.a = w.a ∧ v.b = w.b ∧ v.fin = w.fin ∧ v.data = w.data ∧ v.spans = w.spans
instance (v w : FV) : Decidable (sameV v w) := by unfold sameV; infer_instance
/-! may -/
/-! an Ack's spans -/
def RSp : Option Int → List Run → Prop
  | _, [] => True
  | p, r :: l => (okN r.1 ∧ okN r.2) ∧ r.1 ≤ r.2 ∧ (∀ q, p = some q → 2 ≤ q - r.2) ∧ RSp (some r.1) l
def decRSp : (p : Option Int) → (l : List Run) → Decidable (RSp p l)
  | _, [] => .isTrue trivial
  | p, r :: l => by
    unfold RSp okN
    have := decRSp (some r.1) l
    cases p with
    | none => exact decidable_of_iff (((0 ≤ r.1 ∧ r.1 ≤ 4611686018427387903) ∧ 0 ≤ r.2 ∧ r.2 ≤ 4611686018427387903) ∧ r.1 ≤ r.2 ∧ RSp (some r.1) l) (by simp)
    | some q => exact decidable_of_iff (((0 ≤ r.1 ∧ r.1 ≤ 4611686018427387903) ∧ 0 ≤ r.2 ∧ r.2 ≤ 4611686018427387903) ∧ r.1 ≤ r.2 ∧ 2 ≤ q - r.2 ∧ RSp (some r.1) l) (by simp)
instance (p : Option Int) (l : List Run) : Decidable (RSp p l) := decRSp p l
def RSs (l : List Run) : Prop := RSp none l ∧ 1 ≤ l.length ∧ l.length ≤ 8
instance (l : List Run) : Decidable (RSs l) := by unfold RSs; infer_instance
def prevOf (l : List Run) (i : Nat) : Option Int := if i = 0 then none else some (l.getD (i - 1) (0, 0)).1
end Go.Proofs.Ythiccnmplgdheaa.T
/- Chapter 5's functions over the typed texts: right frames. -/
set_option linter.unusedVariables false
set_option linter.unusedSimpArgs false
namespace Go.Proofs.Ythiccnmplgdheaa.T
open Go Go.Abs Go.Proofs
def bareV (v : FV) : FV :=
  if v.kind = 2 then ⟨v.kind, 0, 0, 0, 0, 0, false, [], v.spans⟩
  else if v.kind = 3 then ⟨v.kind, v.id, v.off, 0, 0, 0, v.fin, v.data, []⟩
  else if v.kind = 4 then ⟨v.kind, v.id, v.off, v.a, v.b, 0, false, [], []⟩
  else if v.kind = 5 ∨ v.kind = 7 then ⟨v.kind, v.id, 0, v.a, 0, 0, false, [], []⟩
  else if v.kind = 6 ∨ v.kind = 12 then ⟨v.kind, 0, 0, v.a, 0, 0, false, [], []⟩
  else if v.kind = 8 then ⟨v.kind, 0, 0, v.a, 0, 0, v.fin, [], []⟩
  else if v.kind = 9 then ⟨v.kind, 0, 0, 0, 0, 0, false, v.data, []⟩
  else if v.kind = 10 ∨ v.kind = 11 then ⟨v.kind, v.id, 0, 0, 0, 0, false, [], []⟩
  else ⟨v.kind, 0, 0, 0, 0, 0, false, [], []⟩
theorem rdR_nil (h : H) : RdR h ⟨none, 0, 0⟩ [] := rd_nil 2 h
theorem rdB_nil (h : H) : RdB h ⟨none, 0, 0⟩ [] := rd_nil 1 h
theorem bareX_rd {h : H} {x : F9} {v : FV} (r : FRd h x v) : FRd h (bareX x) (bareV v) := by
  obtain ⟨e1, e2, e3, e4, e5, e6, e7⟩ := r.e
  have d := r.data
  have s := r.spans
  have n1 := rdB_nil h
  have n2 := rdR_nil h
  unfold bareX bareV
  rw [e1]
  (repeat' split) <;> first | exact ⟨⟨rfl, rfl, rfl, rfl, rfl, rfl, rfl⟩, by first | exact d | exact n1, by first | exact s | exact n2⟩ | exact ⟨⟨rfl, e2, rfl, e4, rfl, rfl, rfl⟩, by first | exact d | exact n1, by first | exact s | exact n2⟩ | exact ⟨⟨rfl, e2, e3, e4, e5, rfl, rfl⟩, by first | exact d | exact n1, by first | exact s | exact n2⟩ | exact ⟨⟨rfl, e2, e3, rfl, rfl, rfl, e7⟩, by first | exact d | exact n1, by first | exact s | exact n2⟩ | exact ⟨⟨rfl, rfl, rfl, e4, rfl, rfl, rfl⟩, by first | exact d | exact n1, by first | exact s | exact n2⟩ | exact ⟨⟨rfl, rfl, rfl, e4, rfl, rfl, e7⟩, by first | exact d | exact n1, by first | exact s | exact n2⟩ | exact ⟨⟨rfl, e2, rfl, rfl, rfl, rfl, rfl⟩, by first | exact d | exact n1, by first | exact s | exact n2⟩
def FR0 (v : FV) : Prop := (1 ≤ v.kind ∧ v.kind ≤ 12) ∧ sameV v (bareV v) ∧ (okN v.id ∧ okN v.off ∧ okN v.a ∧ okN v.b) ∧ v.data.length ≤ 120
def FR1 (v : FV) : Prop := if v.kind = 2 then RSs v.spans else if v.kind = 3 then v.off ≤ 4611686018427387903 - v.data.length else if v.kind = 4 then v.b ≤ v.off else if v.kind = 9 then 0 < v.data.length else True
def FR (v : FV) : Prop := FR0 v ∧ FR1 v
instance (v : FV) : Decidable (FR0 v) := by unfold FR0; infer_instance
instance (v : FV) : Decidable (FR1 v) := by unfold FR1; infer_instance
instance (v : FV) : Decidable (FR v) := by unfold FR; infer_instance
end Go.Proofs.Ythiccnmplgdheaa.T
