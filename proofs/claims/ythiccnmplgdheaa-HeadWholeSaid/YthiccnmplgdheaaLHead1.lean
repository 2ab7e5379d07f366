/- Chapter 18's example and the law HeadSpread over the typed texts. -/
-- SEAT b
import Derived.Test.YthiccnmplgdheaaSHead4
set_option linter.unusedVariables false
set_option linter.unusedSimpArgs false
namespace Go.Proofs.Ythiccnmplgdheaa.T
open Go Go.Abs Go.Proofs
theorem capOk_self (sz n : Nat) (h : n < B63) : CapOK sz n n := by unfold CapOK; rw [capK_exact h]; exact Nat.le_refl _
theorem Box.rdS {h : H} {b n : Nat} {xs : List Sl} (B : Box h b (xs.map encSl)) (w : WF h) (hn : xs.length = n) (hb : n < B63) : RdS h ⟨some ⟨b, 0, some 0⟩, n, n⟩ xs := by
  subst hn; exact B.rd w (by simp) (capOk_self _ _ hb)
theorem Box.rdB {h : H} {b n : Nat} {xs : List UInt8} (B : Box h b (vB xs)) (w : WF h) (hn : xs.length = n) (hb : n < B63) : RdB h ⟨some ⟨b, 0, some 0⟩, n, n⟩ xs := by
  subst hn; exact B.rd w (by simp [vB]) (capOk_self _ _ hb)
def X0 : Hd := (3, 9, 2, 0, 81)
theorem known18_f {h : H} (w : WF h) : PO (law18_known h) (fun (a, h1) => a = true ∧ EX h h1) := by
  unfold law18_known P.law18_known
  refine PO.call (Of_f w 3 9 81) fun a h0 ⟨e, x0⟩ => ?_
  have e' : a = X0 := by rw [show a = ofV 3 9 81 from e]; decide
  subst e'
  refine PO.newB x0.wf fun h1 x1 B1 z1 w1 => PO.stZ B1 w1 rfl rfl fun h2 B2 u2 z2 w2 => ?_
  have B2' : Box h2 h0.size (hdL X0) := B2
  have xx2 : EX h h2 := u2.ex0 (x0.trans x1) (fun A hA e => by have := x0.size; omega)
  have hn2 := w2.nro
  refine PO.letGrow w2 fun h3 x3 z3 w3 n3 => .ldZ5 (Box.kx x3 B2') ?_
  refine PO.addNew (vs := vB (List.replicate 80 0)) w3 (by decide) (n3 1 (by omega)) (by omega) (by rw [x3.nro]; omega) fun h4 N4 B4 => ?_
  have z4 := N4.size
  refine PO.addNew (vs := [(⟨some ⟨h2.size + 1, 0, some 0⟩, 80, 80⟩ : Sl)].map encSl) N4.wf (by decide) (N4.nn (by omega) (by omega) (n3 2 (by omega))) (by omega) (by rw [N4.up.nro, x3.nro]; omega) fun h5 N5 B5 => .addNil ?_
  have B4' := NW.kb N5 B4
  have rp := Box.rdB (n := 80) B4' N5.wf (by simp) (by unfold B63; omega)
  refine PO.call (Lay_f N5.wf X0 (Box.rdS (n := 1) B5 N5.wf rfl (by unfold B63; omega)) (ls := [List.replicate 80 0]) ⟨⟨rp, by simp⟩, trivial⟩ (by simp) (by simp [cat])) fun s6 h6 ⟨r6, x6⟩ => ?_
  have B4'' := Box.kx x6 B4'
  have B5' := Box.kx x6 B5
  refine .addOld B4''.ne (.addOld B5'.ne (.addNil (PO.letTick x6.wf fun h8 x8 z8 w8 => ?_)))
  have hc : cat [List.replicate 80 (0 : UInt8)] = List.replicate 80 0 := by simp [cat]
  have r6' : RdB h6 s6 (layV X0 (List.replicate 80 0)) := by rw [← hc]; exact r6
  have hX : HR X0 ∧ ((List.replicate 80 (0 : UInt8)).length : Int) = hto X0 - hfrom X0 := by decide
  have hlen : (layV X0 (List.replicate 80 0)).length = 86 := by decide +kernel
  refine PO.call (Read_f w8 (r6'.ex x8) (by omega)) fun a h9 ⟨e1, e2, r9, x9⟩ => ?_
  rw [readV_layV hX] at e1 e2 r9
  obtain ⟨a1, a2, a3⟩ := a
  simp only at e1 e2 r9 x9
  subst e1 e2
  have xx5 : EX h h5 := N5.ex0 (N4.ex0 (xx2.trans x3) (by have := xx2.size; omega)) (by have := xx2.size; omega)
  have C9 : Box h9 h0.size (hdL X0) := Box.kx x9 (Box.kx x8 (Box.kx x6 (NW.kb N5 (NW.kb N4 (Box.kx x3 B2')))))
  refine PO.newB x9.wf fun h10 x10 B10 z10 w10 => PO.stZ B10 w10 rfl rfl fun h11 B11 u11 z11 w11 => ?_
  have B11' : Box h11 h9.size (hdL X0) := B11
  have C11 : Box h11 h0.size (hdL X0) := Box.ku u11 (by have := C9.blt; omega) (Box.kx x10 C9)
  have xx11 : EX h h11 := u11.ex0 (((xx5.trans x6).trans x8).trans (x9.trans x10)) (fun A hA e => by have := ((xx5.trans x6).trans (x8.trans x9)).size; omega)
  refine .ldI C11 rfl (.condE (fun _ => .ldI C11 rfl (.condE (fun _ => .condE (fun _ => .condE (fun _ => .ldZ5 B11' (.ldZ5 C11 (.letO (.chk' ?_ ?_)))) (fun h => absurd rfl h)) (fun h => absurd ?_ h)) (fun h => absurd rfl h))) (fun h => absurd rfl h))
  · rfl
  · refine .ret ⟨?_, xx11⟩
    rw [RdB.len r9]; rfl
  · rw [RdB.len r6', hlen]; rfl
theorem PO.law {m : Option (Bool × H)} (p : PO m (fun (a, _) => a = true)) : ∃ h', m = some (true, h') := by
  obtain ⟨⟨a, h'⟩, e, ha⟩ := p
  have ha' : a = true := ha
  subst ha'
  exact ⟨h', e⟩
theorem slB_hi {h : H} {s : Sl} {l : List UInt8} (hr : RdB h s l) {hi : Int} (h1 : 0 ≤ hi) (h2 : hi ≤ l.length) : ∃ s', slT 1 h s none (some hi) none = some s' ∧ RdB h s' (l.take hi.toNat) := by
  obtain ⟨s', e, r, _, _⟩ := sl_hi (hi := hi) (by omega) (by unfold B63; omega) hr h1 (by rw [RdB.len hr]; exact h2)
  refine ⟨s', e, ?_⟩
  unfold vB at r; unfold RdB vB
  rw [Nat.mul_one] at r
  rw [List.map_take]; exact r
theorem slB_lo {h : H} {s : Sl} {l : List UInt8} (hr : RdB h s l) {lo : Int} (h1 : 0 ≤ lo) (h2 : lo ≤ l.length) : ∃ s', slT 1 h s (some lo) none none = some s' ∧ RdB h s' (l.drop lo.toNat) := by
  obtain ⟨s', e, r, _, _⟩ := sl_lo (lo := lo) (by omega) (by unfold B63; omega) hr h1 (by rw [RdB.len hr]; exact h2)
  refine ⟨s', e, ?_⟩
  unfold vB at r; unfold RdB vB
  rw [Nat.mul_one] at r
  rw [List.map_drop]; exact r
theorem ofV_ok {id dl sz : Int} (h : 0 ≤ id ∧ id < 40 ∧ 0 ≤ dl ∧ dl ≤ 4611686018427387903 ∧ 1 ≤ sz ∧ sz ≤ 600) : ofV id dl sz = (id, dl, hcnt sz, 0, sz) ∧ HR (id, dl, hcnt sz, 0, sz) := by
  have : HR (id, dl, hcnt sz, 0, sz) := ⟨h.1, h.2.1, h.2.2.1, h.2.2.2.1, h.2.2.2.2.1, h.2.2.2.2.2, rfl, Int.le_refl 0, by show 0 < hcnt sz; unfold hcnt; omega⟩
  exact ⟨by unfold ofV; rw [if_pos this], this⟩
abbrev RNG (n : Int) : Prop := -9223372036854775808 ≤ n ∧ n ≤ 9223372036854775807
theorem emod_b (a : Int) {m : Int} (h : 0 < m) : 0 ≤ a % m ∧ a % m < m := ⟨Int.emod_nonneg a (by omega), Int.emod_lt_of_pos a h⟩
theorem layV_no {x : Hd} {l : List UInt8} (h : (l.length : Int) ≠ hto x - hfrom x) : layV x l = [] := by unfold layV; rw [if_neg (fun e => h e.2)]
end Go.Proofs.Ythiccnmplgdheaa.T
